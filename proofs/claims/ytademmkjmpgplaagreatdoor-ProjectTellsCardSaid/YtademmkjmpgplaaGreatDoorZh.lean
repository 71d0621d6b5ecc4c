/- Contracts of the reference: labels, carried. -/
import Derived.Test.YtademmkjmpgplaaGreatDoorZg
set_option linter.unusedSimpArgs false
set_option linter.unusedVariables false
set_option linter.unusedSectionVars false
namespace Go.Sy
open Go.Proofs
set_option maxRecDepth 100000
attribute [local irreducible] SOps Goes DOps EOps FOps GOps
theorem labsR_snoc{p:Prt}{set:List Int}{k:Nat}(h:k < set.length):labsR p (set.take (k+1))=((Q5 p set[k]).arms.map Arm.label).foldl putN (labsR p (set.take k)):=by
 unfold labsR
 rw[List.take_succ_eq_append_getElem h,List.foldl_append];rfl
theorem fold_snoc{l:List Arm}{m:Nat}(h:m < l.length)(out:List ByteArray):((l.take (m+1)).map Arm.label).foldl putN out=putN (((l.take m).map Arm.label).foldl putN out) l[m].label:=by
 rw[List.take_succ_eq_append_getElem h,List.map_append,List.foldl_append];rfl
set_option maxHeartbeats 16000000 in
theorem labelsR_c(p:Prt)(hv:prtB p=true)(role:ByteArray)(v:Value)(S:List (List Int))(set:List Int)(hr:∀x∈set,0≤x∧x < (p.points.length:Int))(hsl:set.length≤24):
 ConM Tryz.prog 91 (workM p role v S) [.one (.ptr G7 0),C1 (intsT set)] (fun _:Unit=>True)
  (fun _=>.tup [C1 (Q8 (allL p set)),C1 (.bool (!set.any fun x=>decide ((Q5 p x).arms.length≠(allL p set).length)))]) (fun _=>workM p role v S):=by
 have hla:=labsR_eq p set
 have h6:∀x,(Q5 p x).arms.length≤6:=fun x=>by
  rcases pntAt_arms hv x with h1|h1
  ·rw[h1];simp
  ·exact(arms_all h1).1.2
 refine conM_of (c:=_) Tryz.func91 rfl rfl rfl (by decide) rfl fun w M0 H Z hd=>?_
 repeat'(first|refine gc_ rfl ?_|(refine G1 ?_;refine G0 th rfl ?_)|(refine G9 mix rfl rfl ?_;refine G3 th rfl ?_)|(refine G5 mix rfl rfl ?_;refine GJ th rfl ?_)|refine G2 ?_|refine G4 ?_|refine G6 ?_ rfl rfl|((first|refine G8 rfl rfl ?_ ?_|refine GG rfl rfl rfl ?_ ?_|refine Q1 rfl ?_ ?_)<;>intro hb<;>(try simp only[hbL]at hb)<;>first|(exfalso;omega)|refine G0 th rfl ?_|refine G3 th rfl ?_|skip))
 refine J8 (fun k:Nat=>k≤set.length∧(labsR p (set.take k)).length≤6 * k)
  (fun k=>[(0,.v (.one (.ptr G7 0))),(1,.v (C1 (intsT set))),(6,.v (C1 (Q8 (labsR p (set.take k))))),(7,.v (C1 (.int .i64 (k:Int))))])
  (fun _=>workM p role v S)
  (fun k=>set.length - k) 0 ⟨Nat.zero_le _,by simp[labsR]⟩
  (fun a w h=>h.sub (by exact⟨⟨_,rfl,.refl _⟩,⟨_,rfl,.refl _⟩,⟨_,rfl,.v (.one (.c (.nil 1)))⟩,⟨_,rfl,GY rfl⟩,trivial⟩) (by exact⟨⟨_,rfl,.refl _⟩,⟨_,rfl,.refl _⟩,trivial⟩) rfl rfl rfl) (fun k hk ih=>?_)
 obtain⟨hk,hkl⟩:=hk
 by_cases hlt:k < set.length
 ·have hx:(set.map fun r=>[CT.int .i64 r])[k]? =some [.int .i64 set[k]]:=by simp[hlt]
  have hxr:=hr _ (List.getElem_mem hlt)
  have hxp:=pntAt_get hxr
  have hy6:=h6 set[k]
  have hsn:=labsR_snoc (p:=p) hlt
  have hih:=fun h=>ih (k+1) ⟨hlt,h⟩ (by omega)
  rw[hsn]at hih
  clear ih hsn
  generalize labsR p (set.take k)=out0 at *
  generalize Q5 p set[k]=y at *
  generalize set[k]=z at hx hxr hxp
  repeat'(first|refine gc_ rfl ?_|(refine G1 ?_;refine G0 th rfl ?_)|(refine G9 mix rfl rfl ?_;refine G3 th rfl ?_)|(refine G5 mix rfl rfl ?_;refine GJ th rfl ?_)|refine G2 ?_|refine G4 ?_|refine G6 ?_ rfl rfl|((first|refine G8 rfl rfl ?_ ?_|refine GG rfl rfl rfl ?_ ?_|refine Q1 rfl ?_ ?_)<;>intro hb<;>(try simp only[hbL]at hb)<;>first|(exfalso;omega)|refine G0 th rfl ?_|refine G3 th rfl ?_|skip)|((first|refine d_idx th rfl rfl rfl rfl rfl rfl rfl rfl rfl k _ rfl hx ?_|refine d_idx th rfl rfl rfl rfl rfl rfl rfl rfl rfl z.toNat _ (by omega) hxp ?_);refine G3 th rfl ?_))
  all_goals first|(exfalso;simp only[List.length_map]at hb;omega)|skip
  refine J8 (fun m:Nat=>m≤y.arms.length∧(((y.arms.take m).map Arm.label).foldl putN out0).length≤6 * k+m)
   (fun m=>[(0,.v (.one (.ptr G7 0))),(1,.v (C1 (intsT set))),(6,.v (C1 (Q8 (((y.arms.take m).map Arm.label).foldl putN out0)))),(7,.v (C1 (.int .i64 (k:Int)))),(8,.v (C1 (armsC y.arms))),(9,.v (C1 (.int .i64 (m:Int))))])
   (fun _=>workM p role v S)
   (fun m=>y.arms.length - m) 0 ⟨Nat.zero_le _,hkl⟩
   (fun a w h=>h.sub (by exact⟨⟨_,rfl,.refl _⟩,⟨_,rfl,.refl _⟩,⟨_,rfl,.refl _⟩,⟨_,rfl,.refl _⟩,⟨_,rfl,.refl _⟩,⟨_,rfl,GY rfl⟩,trivial⟩) (by exact⟨⟨_,rfl,.refl _⟩,⟨_,rfl,.refl _⟩,trivial⟩) rfl rfl rfl) (fun m hm ih2=>?_)
  obtain⟨hm,hml⟩:=hm
  by_cases hmt:m < y.arms.length
  ·have hxa:(y.arms.map Arm.cs)[m]? =some (y.arms[m]).cs:=by simp[hmt]
   have hfs:=fold_snoc hmt out0
   have hih2:=fun h=>ih2 (m+1) ⟨hmt,h⟩ (by omega)
   rw[hfs]at hih2
   clear ih2 hih hfs
   have hpl:=putN_len (((y.arms.take m).map Arm.label).foldl putN out0) (y.arms[m]).label
   have hput:=putR_c (((y.arms.take m).map Arm.label).foldl putN out0) (y.arms[m]).label (by omega)
   generalize ((y.arms.take m).map Arm.label).foldl putN out0=out at *
   generalize y.arms[m]=a at *
   repeat'(first|refine gc_ rfl ?_|(refine G1 ?_;refine G0 th rfl ?_)|(refine G9 mix rfl rfl ?_;refine G3 th rfl ?_)|(refine G5 mix rfl rfl ?_;refine GJ th rfl ?_)|refine G2 ?_|refine G4 ?_|refine G6 ?_ rfl rfl|((first|refine G8 rfl rfl ?_ ?_|refine GG rfl rfl rfl ?_ ?_|refine Q1 rfl ?_ ?_)<;>intro hb<;>(try simp only[hbL]at hb)<;>first|(exfalso;omega)|refine G0 th rfl ?_|refine G3 th rfl ?_|skip)|((first|refine K2 th rfl rfl rfl rfl rfl rfl rfl rfl rfl m _ rfl hxa ?_|refine Q4 hput [] rfl rfl rfl rfl rfl rfl rfl rfl rfl rfl ?_|refine QW rfl rfl rfl rfl rfl rfl (by omega) ?_);refine G0 th rfl ?_))
   all_goals first|(exfalso;simp only[List.length_map]at hb;omega)|exact QK (by exact⟨⟨_,rfl,.refl _⟩,⟨_,rfl,.refl _⟩,⟨_,rfl,.refl _⟩,⟨_,rfl,.refl _⟩,⟨_,rfl,.refl _⟩,⟨_,rfl,GY (by omega)⟩,trivial⟩) (by exact⟨⟨_,rfl,.refl _⟩,⟨_,rfl,.refl _⟩,trivial⟩) rfl rfl rfl (hih2 (by omega))
  ·rw[show y.arms.take m=y.arms from List.take_of_length_le (by omega)]at hml⊢
   have hih3:=hih (by omega)
   clear ih2 hih
   generalize (y.arms.map Arm.label).foldl putN out0=out at *
   repeat'(first|refine gc_ rfl ?_|(refine G1 ?_;refine G0 th rfl ?_)|(refine G9 mix rfl rfl ?_;refine G3 th rfl ?_)|(refine G5 mix rfl rfl ?_;refine GJ th rfl ?_)|refine G2 ?_|refine G4 ?_|refine G6 ?_ rfl rfl|((first|refine G8 rfl rfl ?_ ?_|refine GG rfl rfl rfl ?_ ?_|refine Q1 rfl ?_ ?_)<;>intro hb<;>(try simp only[hbL]at hb)<;>first|(exfalso;omega)|refine G0 th rfl ?_|refine G3 th rfl ?_|skip)|(refine QW rfl rfl rfl rfl rfl rfl (by omega) ?_;refine G0 th rfl ?_))
   all_goals first|(exfalso;simp only[List.length_map]at hb;omega)|exact QK (by exact⟨⟨_,rfl,.refl _⟩,⟨_,rfl,.refl _⟩,⟨_,rfl,.refl _⟩,⟨_,rfl,GY (by omega)⟩,trivial⟩) (by exact⟨⟨_,rfl,.refl _⟩,⟨_,rfl,.refl _⟩,trivial⟩) rfl rfl rfl hih3
 ·rw[show set.take k=set from List.take_of_length_le (by omega),hla]at hkl⊢
  clear ih
  generalize hAA:allL p set=A at *
  clear hAA hla
  repeat'(first|refine gc_ rfl ?_|(refine G1 ?_;refine G0 th rfl ?_)|(refine G9 mix rfl rfl ?_;refine G3 th rfl ?_)|(refine G5 mix rfl rfl ?_;refine GJ th rfl ?_)|refine G2 ?_|refine G4 ?_|refine G6 ?_ rfl rfl|((first|refine G8 rfl rfl ?_ ?_|refine GG rfl rfl rfl ?_ ?_|refine Q1 rfl ?_ ?_)<;>intro hb<;>(try simp only[hbL]at hb)<;>first|(exfalso;omega)|refine G0 th rfl ?_|refine G3 th rfl ?_|skip))
  all_goals first|(exfalso;simp only[List.length_map]at hb;omega)|skip
  refine J8 (fun i:Nat=>i≤set.length∧(set.take i).any (fun x=>decide ((Q5 p x).arms.length≠A.length))=false)
   (fun i=>[(0,.v (.one (.ptr G7 0))),(1,.v (C1 (intsT set))),(6,.v (C1 (Q8 A))),(10,.v (C1 (.int .i64 (i:Int))))])
   (fun _=>workM p role v S)
   (fun i=>set.length - i) 0 ⟨Nat.zero_le _,rfl⟩
   (fun a w h=>h.sub (by exact⟨⟨_,rfl,.refl _⟩,⟨_,rfl,.refl _⟩,⟨_,rfl,.refl _⟩,⟨_,rfl,GY rfl⟩,trivial⟩) (by exact⟨⟨_,rfl,.refl _⟩,⟨_,rfl,.refl _⟩,trivial⟩) rfl rfl rfl) (fun i hi ih=>?_)
  obtain⟨hi,hal⟩:=hi
  by_cases hlt2:i < set.length
  ·have hx:(set.map fun r=>[CT.int .i64 r])[i]? =some [.int .i64 set[i]]:=by simp[hlt2]
   have hxr:=hr _ (List.getElem_mem hlt2)
   have hxp:=pntAt_get hxr
   have hsn:=anyT_snoc hlt2 (fun x=>decide ((Q5 p x).arms.length≠A.length))
   rw[hal,Bool.false_or]at hsn
   by_cases heq:(Q5 p set[i]).arms.length=A.length
   ·have hih:=ih (i+1) ⟨hlt2,by rw[hsn];exact decide_eq_false fun h=>h heq⟩ (by omega)
    have heqI:((Q5 p set[i]).arms.length:Int)=(A.length:Int):=by omega
    clear ih hsn hal
    generalize Q5 p set[i]=y at *
    generalize set[i]=z at hx hxr hxp
    repeat'(first|refine gc_ rfl ?_|(refine G1 ?_;refine G0 th rfl ?_)|(refine G9 mix rfl rfl ?_;refine G3 th rfl ?_)|(refine G5 mix rfl rfl ?_;refine GJ th rfl ?_)|refine G2 ?_|refine G4 ?_|refine G6 ?_ rfl rfl|((first|refine G8 rfl rfl ?_ ?_|refine GG rfl rfl rfl ?_ ?_|refine Q1 rfl ?_ ?_)<;>intro hb<;>(try simp only[hbL]at hb)<;>first|(exfalso;omega)|refine G0 th rfl ?_|refine G3 th rfl ?_|skip)|((first|refine d_idx th rfl rfl rfl rfl rfl rfl rfl rfl rfl i _ rfl hx ?_|refine d_idx th rfl rfl rfl rfl rfl rfl rfl rfl rfl z.toNat _ (by omega) hxp ?_);refine G3 th rfl ?_)|(refine QW rfl rfl rfl rfl rfl rfl (by omega) ?_;refine G0 th rfl ?_))
    all_goals first|(exfalso;simp only[List.length_map]at hb;omega)|(exfalso;simp only[List.length_map]at hb;exact hb heqI)|exact QK (by exact⟨⟨_,rfl,.refl _⟩,⟨_,rfl,.refl _⟩,⟨_,rfl,.refl _⟩,⟨_,rfl,GY (by omega)⟩,trivial⟩) (by exact⟨⟨_,rfl,.refl _⟩,⟨_,rfl,.refl _⟩,trivial⟩) rfl rfl rfl hih
   ·have hany:set.any (fun x=>decide ((Q5 p x).arms.length≠A.length))=true:=List.any_eq_true.2 ⟨set[i],List.getElem_mem hlt2,decide_eq_true heq⟩
    have heqI:¬((Q5 p set[i]).arms.length:Int)=(A.length:Int):=by omega
    rw[hany]
    clear ih hsn hal hany
    generalize Q5 p set[i]=y at *
    generalize set[i]=z at hx hxr hxp
    repeat'(first|refine gc_ rfl ?_|(refine G1 ?_;refine G0 th rfl ?_)|(refine G9 mix rfl rfl ?_;refine G3 th rfl ?_)|(refine G5 mix rfl rfl ?_;refine GJ th rfl ?_)|refine G2 ?_|refine G4 ?_|refine G6 ?_ rfl rfl|((first|refine G8 rfl rfl ?_ ?_|refine GG rfl rfl rfl ?_ ?_|refine Q1 rfl ?_ ?_)<;>intro hb<;>(try simp only[hbL]at hb)<;>first|(exfalso;omega)|refine G0 th rfl ?_|refine G3 th rfl ?_|skip)|((first|refine d_idx th rfl rfl rfl rfl rfl rfl rfl rfl rfl i _ rfl hx ?_|refine d_idx th rfl rfl rfl rfl rfl rfl rfl rfl rfl z.toNat _ (by omega) hxp ?_);refine G3 th rfl ?_)|(refine QW rfl rfl rfl rfl rfl rfl (by omega) ?_;refine G0 th rfl ?_))
    all_goals first|(exfalso;simp only[List.length_map]at hb;omega)|(exfalso;simp only[List.length_map]at hb;exact heqI hb)|exact JW (hd:=hd) th Tryz.func91 () (.inr ⟨_,rfl⟩) rfl rfl rfl rfl ⟨rfl,rfl,trivial⟩ rfl rfl rfl trivial
  ·rw[show set.take i=set from List.take_of_length_le (by omega)]at hal
   rw[hal]
   clear ih
   repeat'(first|refine gc_ rfl ?_|(refine G1 ?_;refine G0 th rfl ?_)|(refine G9 mix rfl rfl ?_;refine G3 th rfl ?_)|(refine G5 mix rfl rfl ?_;refine GJ th rfl ?_)|refine G2 ?_|refine G4 ?_|refine G6 ?_ rfl rfl|((first|refine G8 rfl rfl ?_ ?_|refine GG rfl rfl rfl ?_ ?_|refine Q1 rfl ?_ ?_)<;>intro hb<;>(try simp only[hbL]at hb)<;>first|(exfalso;omega)|refine G0 th rfl ?_|refine G3 th rfl ?_|skip))
   all_goals first|(exfalso;simp only[List.length_map]at hb;omega)|exact JW (hd:=hd) th Tryz.func91 () (.inr ⟨_,rfl⟩) rfl rfl rfl rfl ⟨rfl,rfl,trivial⟩ rfl rfl rfl trivial
abbrev carT(r:((Int×ByteArray)×List Int)×Bool):ST:=.tup [Ag [.int .i64 r.1.1.1,.str r.1.1.2],C1 (intsT r.1.2),C1 (.bool r.2)]
set_option maxHeartbeats 16000000 in
theorem carriedR_c(p:Prt)(role:ByteArray)(v:Value)(S:List (List Int))(set:List Int)(hr:∀x∈set,0≤x∧x < (p.points.length:Int))(hsl:set.length≤24)(s:ByteArray):
 ConM Tryz.prog 92 (workM p role v S) [.one (.ptr G7 0),C1 (intsT set),C1 (.str s)] (fun _:Unit=>True)
  (fun _=>carT (carR p set s)) (fun _=>workM p role v S):=by
 refine conM_of (c:=_) Tryz.func92 rfl rfl rfl (by decide) rfl fun w M0 H Z hd=>?_
 repeat'(first|refine gc_ rfl ?_|(refine G1 ?_;refine G0 th rfl ?_)|(refine G9 mix rfl rfl ?_;refine G3 th rfl ?_)|(refine G5 mix rfl rfl ?_;refine GJ th rfl ?_)|refine G2 ?_|refine G4 ?_|refine G6 ?_ rfl rfl|((first|refine G8 rfl rfl ?_ ?_|refine GG rfl rfl rfl ?_ ?_|refine Q1 rfl ?_ ?_)<;>intro hb<;>(try simp only[hbL]at hb)<;>first|(exfalso;omega)|refine G0 th rfl ?_|refine G3 th rfl ?_|skip))
 refine g_adopt 10 290 3 1 rfl rfl rfl ?_
 refine g_loop2 (fun(k:Nat) (x:(Int×ByteArray)×List Int)=>k≤set.length∧x.2.length≤k∧carR p set s=carFR p s (set.drop k) x.1 x.2)
  (fun k _=>[(0,.v (.one (.ptr G7 0))),(1,.v (C1 (intsT set))),(2,.v (C1 (.str s))),(6,.v (.one (.ptr 6 0))),(9,.v (.one (.ptr 9 0))),(10,.v (.one (.own 290))),(11,.v (C1 (.int .i64 (k:Int))))])
  (fun _ x=>(290,.arr false 3 1 (x.2.map fun r=>[CT.int .i64 r]))::(6,.box [.c (.int .i64 0),.c (.str ⟨#[]⟩)])::(9,.box [.c (.int .i64 x.1.1),.c (.str x.1.2)])::workM p role v S)
  (fun k _=>set.length - k) 0 ((0,⟨#[]⟩),[]) ⟨Nat.zero_le _,Nat.le_refl _,rfl⟩
  (fun a w h=>h.sub (by exact⟨⟨_,rfl,.refl _⟩,⟨_,rfl,.refl _⟩,⟨_,rfl,.refl _⟩,⟨_,rfl,.refl _⟩,⟨_,rfl,.refl _⟩,⟨_,rfl,.refl _⟩,⟨_,rfl,GY rfl⟩,trivial⟩) (by exact⟨⟨_,rfl,le_arr rfl⟩,⟨_,rfl,.refl _⟩,⟨_,rfl,.refl _⟩,⟨_,rfl,.refl _⟩,⟨_,rfl,.refl _⟩,trivial⟩) rfl rfl rfl) (fun k x hk ih=>?_)
 obtain⟨⟨ck,cn⟩,to⟩:=x
 obtain⟨hk,htl,hst⟩:=hk
 simp only at htl hst⊢
 by_cases hlt:k < set.length
 ·have hx:(set.map fun r=>[CT.int .i64 r])[k]? =some [.int .i64 set[k]]:=by simp[hlt]
  have hxr:=hr _ (List.getElem_mem hlt)
  have hxp:=pntAt_get hxr
  rw[List.drop_eq_getElem_cons hlt,carFR]at hst
  have hfind:=findR_c (Q5 p set[k]).arms s
  have hfc:=findI_cases (Q5 p set[k]).arms s
  have hih:=fun x2 h1 h2=>ih (k+1) x2 ⟨hlt,h1,h2⟩ (by omega)
  clear ih
  generalize Q5 p set[k]=y at *
  generalize set[k]=z at hx hxr hxp
  rcases hfc with⟨e1,e2⟩|⟨m,hm,e1,e2⟩
  ·rw[e2]at hst
   rw[e1]at hfind
   have hih2:=hih ((ck,cn),to) (by show to.length≤k+1;omega) hst
   clear hih hst
   repeat'(first|refine gc_ rfl ?_|(refine G1 ?_;refine G0 th rfl ?_)|(refine G9 mix rfl rfl ?_;refine G3 th rfl ?_)|(refine G5 mix rfl rfl ?_;refine GJ th rfl ?_)|refine G2 ?_|refine G4 ?_|refine G6 ?_ rfl rfl|((first|refine G8 rfl rfl ?_ ?_|refine GG rfl rfl rfl ?_ ?_|refine Q1 rfl ?_ ?_)<;>intro hb<;>(try simp only[hbL]at hb)<;>first|(exfalso;omega)|refine G0 th rfl ?_|refine G3 th rfl ?_|skip)|((first|refine d_idx th rfl rfl rfl rfl rfl rfl rfl rfl rfl k _ rfl hx ?_|refine d_idx th rfl rfl rfl rfl rfl rfl rfl rfl rfl z.toNat _ (by omega) hxp ?_);refine G3 th rfl ?_)|((first|refine Q4 hfind [] rfl rfl rfl rfl rfl rfl rfl rfl rfl rfl ?_|refine QW rfl rfl rfl rfl rfl rfl (by omega) ?_);refine G0 th rfl ?_))
   all_goals first|(exfalso;simp only[List.length_map]at hb;omega)|exact QK (by exact⟨⟨_,rfl,.refl _⟩,⟨_,rfl,.refl _⟩,⟨_,rfl,.refl _⟩,⟨_,rfl,.refl _⟩,⟨_,rfl,.refl _⟩,⟨_,rfl,.refl _⟩,⟨_,rfl,GY (by omega)⟩,trivial⟩) (by(repeat refine⟨⟨_,rfl,.refl _⟩,?_⟩);trivial) rfl rfl rfl hih2
  ·rw[e2]at hst
   rw[e1]at hfind
   have hxa:(y.arms.map Arm.cs)[m]? =some (y.arms[m]).cs:=by simp[hm]
   simp only at hst
   obtain⟨a,ha⟩:∃a,a=y.arms[m]:=⟨_,rfl⟩
   rw[←ha]at hst hxa
   clear ha e1 e2
   by_cases hbad:0 < to.length∧(a.kind,a.name)≠(ck,cn)
   ·rw[if_pos hbad]at hst
    rw[hst]
    have hb0:(0:Int) < (to.length:Int):=by omega
    have hb1:(!decide ((a.kind,a.name)=(ck,cn)))=true:=by rw[decide_eq_false hbad.2];rfl
    clear hih hst
    repeat'(first|refine gc_ rfl ?_|(refine G1 ?_;refine G0 th rfl ?_)|(refine G9 mix rfl rfl ?_;refine G3 th rfl ?_)|(refine G5 mix rfl rfl ?_;refine GJ th rfl ?_)|refine G2 ?_|refine G4 ?_|refine G6 ?_ rfl rfl|((first|refine G8 rfl rfl ?_ ?_|refine GG rfl rfl rfl ?_ ?_|refine Q1 rfl ?_ ?_)<;>intro hb<;>(try simp only[hbL]at hb)<;>first|(exfalso;omega)|refine G0 th rfl ?_|refine G3 th rfl ?_|skip)|((first|refine d_idx th rfl rfl rfl rfl rfl rfl rfl rfl rfl k _ rfl hx ?_|refine d_idx th rfl rfl rfl rfl rfl rfl rfl rfl rfl z.toNat _ (by omega) hxp ?_|refine d_idx th rfl rfl rfl rfl rfl rfl rfl rfl rfl m _ rfl hxa ?_|(refine d_neCarR rfl rfl rfl rfl rfl rfl rfl ?_;rw[hb1]));refine G3 th rfl ?_)|(refine Q4 hfind [] rfl rfl rfl rfl rfl rfl rfl rfl rfl rfl ?_;refine G0 th rfl ?_))
    all_goals first
     |(exfalso;simp only[List.length_map]at hb;omega)|(exfalso;revert hb;simp;done)
     |(refine g_leT 7 (.v (C1 (intsT []))) rfl (.v (.one (.c (.nil 1)))) ?_
       exact JW (hd:=hd) th Tryz.func92 () (.inr ⟨_,rfl⟩) rfl rfl rfl rfl ⟨rfl,rfl,trivial⟩ rfl rfl rfl trivial)
   ·rw[if_neg hbad]at hst
    have hih2:=hih ((a.kind,a.name),to++[a.next]) (by simp;omega) hst
    simp only at hih2
    rw[List.map_append]at hih2
    have hgood:(0:Int) < (to.length:Int)→(!decide ((a.kind,a.name)=(ck,cn)))=false:=fun h0=>by
     rw[Bool.not_eq_false',decide_eq_true_eq]
     by_cases he:(a.kind,a.name)=(ck,cn)
     ·exact he
     ·exact absurd ⟨by omega,he⟩ hbad
    clear hih hst hbad
    by_cases h0:(0:Int) < (to.length:Int)
    ·have hg1:=hgood h0
     clear hgood
     repeat'(first|refine gc_ rfl ?_|(refine G1 ?_;refine G0 th rfl ?_)|(refine G9 mix rfl rfl ?_;refine G3 th rfl ?_)|(refine G5 mix rfl rfl ?_;refine GJ th rfl ?_)|refine G2 ?_|refine G4 ?_|refine G6 ?_ rfl rfl|((first|refine G8 rfl rfl ?_ ?_|refine GG rfl rfl rfl ?_ ?_|refine Q1 rfl ?_ ?_)<;>intro hb<;>(try simp only[hbL]at hb)<;>first|(exfalso;omega)|refine G0 th rfl ?_|refine G3 th rfl ?_|skip)|((first|refine d_idx th rfl rfl rfl rfl rfl rfl rfl rfl rfl k _ rfl hx ?_|refine d_idx th rfl rfl rfl rfl rfl rfl rfl rfl rfl z.toNat _ (by omega) hxp ?_|refine d_idx th rfl rfl rfl rfl rfl rfl rfl rfl rfl m _ rfl hxa ?_|(refine d_neCarR rfl rfl rfl rfl rfl rfl rfl ?_;rw[hg1]));refine G3 th rfl ?_)|(refine K2 th rfl rfl rfl rfl rfl rfl rfl rfl rfl m _ rfl hxa ?_;refine G0 th rfl ?_)|(refine s_append th rfl rfl rfl rfl rfl rfl rfl rfl rfl rfl rfl rfl rfl rfl rfl (by constructor<;>simp<;>omega) ?_;refine G0 th rfl ?_)|((first|refine Q4 hfind [] rfl rfl rfl rfl rfl rfl rfl rfl rfl rfl ?_|refine QW rfl rfl rfl rfl rfl rfl (by omega) ?_);refine G0 th rfl ?_))
     all_goals first|(exfalso;simp only[List.length_map]at hb;omega)|(exfalso;revert hb;simp;done)|exact QK (by exact⟨⟨_,rfl,.refl _⟩,⟨_,rfl,.refl _⟩,⟨_,rfl,.refl _⟩,⟨_,rfl,.refl _⟩,⟨_,rfl,.refl _⟩,⟨_,rfl,.refl _⟩,⟨_,rfl,GY (by omega)⟩,trivial⟩) (by(repeat refine⟨⟨_,rfl,.refl _⟩,?_⟩);trivial) rfl rfl rfl hih2
    ·clear hgood
     repeat'(first|refine gc_ rfl ?_|(refine G1 ?_;refine G0 th rfl ?_)|(refine G9 mix rfl rfl ?_;refine G3 th rfl ?_)|(refine G5 mix rfl rfl ?_;refine GJ th rfl ?_)|refine G2 ?_|refine G4 ?_|refine G6 ?_ rfl rfl|((first|refine G8 rfl rfl ?_ ?_|refine GG rfl rfl rfl ?_ ?_|refine Q1 rfl ?_ ?_)<;>intro hb<;>(try simp only[hbL]at hb)<;>first|(exfalso;omega)|refine G0 th rfl ?_|refine G3 th rfl ?_|skip)|((first|refine d_idx th rfl rfl rfl rfl rfl rfl rfl rfl rfl k _ rfl hx ?_|refine d_idx th rfl rfl rfl rfl rfl rfl rfl rfl rfl z.toNat _ (by omega) hxp ?_|refine d_idx th rfl rfl rfl rfl rfl rfl rfl rfl rfl m _ rfl hxa ?_|refine d_neCarR rfl rfl rfl rfl rfl rfl rfl ?_);refine G3 th rfl ?_)|(refine K2 th rfl rfl rfl rfl rfl rfl rfl rfl rfl m _ rfl hxa ?_;refine G0 th rfl ?_)|(refine s_append th rfl rfl rfl rfl rfl rfl rfl rfl rfl rfl rfl rfl rfl rfl rfl (by constructor<;>simp<;>omega) ?_;refine G0 th rfl ?_)|((first|refine Q4 hfind [] rfl rfl rfl rfl rfl rfl rfl rfl rfl rfl ?_|refine QW rfl rfl rfl rfl rfl rfl (by omega) ?_);refine G0 th rfl ?_))
     all_goals first|(exfalso;simp only[List.length_map]at *;omega)|exact QK (by exact⟨⟨_,rfl,.refl _⟩,⟨_,rfl,.refl _⟩,⟨_,rfl,.refl _⟩,⟨_,rfl,.refl _⟩,⟨_,rfl,.refl _⟩,⟨_,rfl,.refl _⟩,⟨_,rfl,GY (by omega)⟩,trivial⟩) (by(repeat refine⟨⟨_,rfl,.refl _⟩,?_⟩);trivial) rfl rfl rfl hih2
 ·rw[List.drop_eq_nil_of_le (by omega),carFR]at hst
  rw[hst]
  clear ih hst
  repeat'(first|refine gc_ rfl ?_|(refine G1 ?_;refine G0 th rfl ?_)|(refine G9 mix rfl rfl ?_;refine G3 th rfl ?_)|(refine G5 mix rfl rfl ?_;refine GJ th rfl ?_)|refine G2 ?_|refine G4 ?_|refine G6 ?_ rfl rfl|((first|refine G8 rfl rfl ?_ ?_|refine GG rfl rfl rfl ?_ ?_|refine Q1 rfl ?_ ?_)<;>intro hb<;>(try simp only[hbL]at hb)<;>first|(exfalso;omega)|refine G0 th rfl ?_|refine G3 th rfl ?_|skip))
  all_goals first
   |(exfalso;simp only[List.length_map]at hb;omega)
   |(refine g_freeze 290 rfl rfl ?_
     exact JW (hd:=hd) th Tryz.func92 () (.inr ⟨_,rfl⟩) rfl rfl rfl rfl ⟨rfl,rfl,trivial⟩ rfl rfl rfl trivial)
end Go.Sy
