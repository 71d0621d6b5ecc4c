/- Contracts of the reference: span, near, lost. -/
import Derived.Test.YtademmkjmpgplaaGreatDoorZa
import Derived.Test.YtademmkjmpgplaaGreatDoorMj2
import Derived.Test.YtademmkjmpgplaaGreatDoorMj1
import Derived.Test.YtademmkjmpgplaaGreatDoorSymZu
set_option linter.unusedSimpArgs false
set_option linter.unusedVariables false
set_option linter.unusedSectionVars false
namespace Go.Sy
open Go.Proofs
set_option maxRecDepth 100000
attribute [local irreducible] SOps Goes DOps EOps FOps GOps
theorem withinR_c(x:Pnt)(role:ByteArray):Con Tryz.prog 120 [] [Ag x.cs,C1 (.str role)] (Rv (.bool (inP x role))) []:=by
 refine J2 (c:=_) Tryz.func120 rfl rfl rfl (by decide) fun w M0 H Z=>?_
 repeat'(first|refine gc_ rfl ?_|(refine G1 ?_;refine G0 th rfl ?_)|(refine G9 mix rfl rfl ?_;refine G3 th rfl ?_)|(refine G5 mix rfl rfl ?_;refine GJ th rfl ?_)|refine G2 ?_|refine G4 ?_|refine G6 ?_ rfl rfl|((first|refine G8 rfl rfl ?_ ?_|refine GG rfl rfl rfl ?_ ?_|refine Q1 rfl ?_ ?_)<;>intro hb<;>(try simp only[hbL]at hb)<;>first|(exfalso;omega)|refine G0 th rfl ?_|refine G3 th rfl ?_|skip)|refine QQ th Tryz.func120 (.inr ⟨_,rfl⟩) rfl rfl rfl ?_ rfl)
 all_goals exact le_ct (by unfold inP;simp[*])
section
variable {p:Prt} {role:ByteArray}
def sub1(p:Prt)(role:ByteArray)(l:List Int)(i:Nat):List Int:=(rng i).filter fun x=>decide (x∈waitL p role l)
theorem sub1_all(l:List Int):sub1 p role l p.points.length=spanR p role l:=rfl
theorem sub1_len(l:List Int)(i:Nat):(sub1 p role l i).length≤i:=by
 have:=List.length_filter_le (fun x=>decide (x∈waitL p role l)) (rng i)
 rw[rng_len]at this;exact this
theorem sub1_yes{l:List Int}{i:Nat}(h:(i:Int)∈waitL p role l):sub1 p role l (i+1)=sub1 p role l i++[(i:Int)]:=by
 unfold sub1;rw[rng_succ,List.filter_append];simp[h]
theorem sub1_no{l:List Int}{i:Nat}(h:(i:Int)∉waitL p role l):sub1 p role l (i+1)=sub1 p role l i:=by
 unfold sub1;rw[rng_succ,List.filter_append];simp[h]
end
abbrev spT(role:ByteArray)(l:List Int)(k:Nat):TM:=[(1,.v (C1 (.str role))),(2,.v (C1 (intsT l))),(3,.v (.one (.ptr 3 0))),(7,.v (.one (.own 18))),(8,.v (.one (.own 200))),(9,.v (C1 (.int .i64 (k:Int))))]
abbrev spR(p:Prt)(wait:List Int):MM:=[(3,.box (p.cs.map SC.c)),(18,.arr false 4 1 (metR p.points.length wait)),(200,.arr false 3 1 (wait.map fun r=>[CT.int .i64 r]))]
set_option maxHeartbeats 32000000 in
theorem spanR_c(p:Prt)(hv:prtB p=true)(role:ByteArray)(l:List Int)(hl:l.length≤1000):Con Tryz.prog 86 [] [Ag p.cs,C1 (.str role),C1 (intsT l)] (Rv (intsT (spanR p role l))) []:=by
 have hpin:=prt_in hv
 have hpl:=prt_len hv
 have hgl:p.g.length=p.points.length:=by simp[Prt.g]
 refine J2 (c:=_) Tryz.func86 rfl rfl rfl (by decide) fun w M0 H Z=>?_
 repeat'(first|refine gc_ rfl ?_|(refine G1 ?_;refine G0 th rfl ?_)|(refine G9 mix rfl rfl ?_;refine G3 th rfl ?_)|(refine G5 mix rfl rfl ?_;refine GJ th rfl ?_)|refine G2 ?_|refine G4 ?_|refine G6 ?_ rfl rfl|((first|refine G8 rfl rfl ?_ ?_|refine GG rfl rfl rfl ?_ ?_|refine Q1 rfl ?_ ?_)<;>intro hb<;>(try simp only[hbL]at hb)<;>first|(exfalso;omega)|refine G0 th rfl ?_|refine G3 th rfl ?_|skip)|(refine s_makeO th rfl rfl rfl rfl rfl rfl rfl rfl rfl rfl rfl p.points.length (by simp) (by simp) (by constructor<;>(try simp)<;>omega) ?_;refine G0 th rfl ?_))
 rw[metR_nil]
 refine g_adopt 8 200 3 1 rfl rfl rfl ?_
 refine g_loop2 (fun(k:Nat) (wait:List Int)=>k≤l.length∧startL p.points.length wait (l.drop k)=startL p.points.length [] l∧Reached p.g wait)
  (fun k _=>spT role l k) (fun _ wait=>spR p wait)
  (fun k _=>l.length - k) 0 [] ⟨Nat.zero_le _,rfl,⟨List.nodup_nil,fun x h=>by cases h⟩⟩
  (fun a w h=>h.sub (by exact⟨⟨_,rfl,.refl _⟩,⟨_,rfl,.refl _⟩,⟨_,rfl,.refl _⟩,⟨_,rfl,.refl _⟩,⟨_,rfl,.refl _⟩,⟨_,rfl,GY rfl⟩,trivial⟩) (by exact⟨⟨_,rfl,.refl _⟩,⟨_,rfl,le_arr rfl⟩,⟨_,rfl,le_arr rfl⟩,trivial⟩) rfl rfl rfl) (fun k wait hk ih=>?_)
 obtain⟨hk,hst,hre⟩:=hk
 have hwl:=hre.len
 by_cases hlt:k < l.length
 ·have hx:(l.map fun r=>[CT.int .i64 r])[k]? =some [.int .i64 l[k]]:=by simp[hlt]
  have hd:l.drop k=l[k]::l.drop (k+1):=List.drop_eq_getElem_cons hlt
  rw[hd,start_cons]at hst
  have hml:((metR p.points.length wait).length:Int)=(p.points.length:Int):=by rw[metR_len]
  by_cases hr:0≤l[k]∧l[k] < (p.points.length:Int)
  ·have hget:=metR_get (l:=wait) hr
   have hset:=metR_set (l:=wait) hr
   have hal:l[k].toNat < (metR p.points.length wait).length:=by rw[metR_len];omega
   cases hm:memB wait l[k]with
   |true=>
    have hin:l[k]∈wait:=by simpa[memB]using hm
    rw[if_neg (fun h=>h.2.2 hin)]at hst
    rw[hm]at hget
    have hih:=ih (k+1) wait ⟨hlt,hst,hre⟩ (by omega)
    clear ih hst hset
    generalize l[k]=z at hx hr hget hal hm
    repeat'(first|refine gc_ rfl ?_|(refine G1 ?_;refine G0 th rfl ?_)|(refine G9 mix rfl rfl ?_;refine G3 th rfl ?_)|(refine G5 mix rfl rfl ?_;refine GJ th rfl ?_)|refine G2 ?_|refine G4 ?_|refine G6 ?_ rfl rfl|((first|refine G8 rfl rfl ?_ ?_|refine GG rfl rfl rfl ?_ ?_|refine Q1 rfl ?_ ?_)<;>intro hb<;>(try simp only[hbL]at hb)<;>first|(exfalso;omega)|refine G0 th rfl ?_|refine G3 th rfl ?_|skip)|((first|refine K2 th rfl rfl rfl rfl rfl rfl rfl rfl rfl k _ rfl hx ?_|refine s_idxo th rfl rfl rfl rfl rfl rfl rfl rfl rfl rfl z.toNat (by omega) hal ?_|refine s_loada th _ rfl rfl rfl rfl hget rfl rfl rfl rfl rfl ?_|refine QW rfl rfl rfl rfl rfl rfl (by omega) ?_);refine G0 th rfl ?_))
    all_goals first|(exfalso;simp only[List.length_map]at hb;omega)|(exfalso;revert hb;simp;done)|exact QK (by exact⟨⟨_,rfl,.refl _⟩,⟨_,rfl,.refl _⟩,⟨_,rfl,.refl _⟩,⟨_,rfl,.refl _⟩,⟨_,rfl,.refl _⟩,⟨_,rfl,GY (by omega)⟩,trivial⟩) (by exact⟨⟨_,rfl,.refl _⟩,⟨_,rfl,.refl _⟩,⟨_,rfl,.refl _⟩,trivial⟩) rfl rfl rfl hih
   |false=>
    have hnm:l[k]∉wait:=notMem_of hm
    rw[if_pos ⟨hr.1,hr.2,hnm⟩]at hst
    rw[hm]at hget
    have hre2:Reached p.g (wait++[l[k]]):=by
     have:=startL_ok [l[k]] hre
     rw[hgl]at this
     rwa [show startL p.points.length wait [l[k]]=wait++[l[k]]from if_pos ⟨hr.1,hr.2,hnm⟩]at this
    have hih:=ih (k+1) (wait++[l[k]]) ⟨hlt,hst,hre2⟩ (by omega)
    rw[spR,←hset,List.map_append]at hih
    clear ih hst hset hre2
    generalize l[k]=z at hx hr hget hal hm hih
    repeat'(first|refine gc_ rfl ?_|(refine G1 ?_;refine G0 th rfl ?_)|(refine G9 mix rfl rfl ?_;refine G3 th rfl ?_)|(refine G5 mix rfl rfl ?_;refine GJ th rfl ?_)|refine G2 ?_|refine G4 ?_|refine G6 ?_ rfl rfl|((first|refine G8 rfl rfl ?_ ?_|refine GG rfl rfl rfl ?_ ?_|refine Q1 rfl ?_ ?_)<;>intro hb<;>(try simp only[hbL]at hb)<;>first|(exfalso;omega)|refine G0 th rfl ?_|refine G3 th rfl ?_|skip)|((first|refine K2 th rfl rfl rfl rfl rfl rfl rfl rfl rfl k _ rfl hx ?_|refine s_idxo th rfl rfl rfl rfl rfl rfl rfl rfl rfl rfl z.toNat (by omega) hal ?_|refine s_loada th _ rfl rfl rfl rfl hget rfl rfl rfl rfl rfl ?_|refine s_storea th rfl rfl rfl rfl rfl rfl rfl rfl rfl rfl rfl hal ?_);refine G0 th rfl ?_)|(refine s_append th rfl rfl rfl rfl rfl rfl rfl rfl rfl rfl rfl rfl rfl rfl rfl (by constructor<;>simp<;>omega) ?_;refine G0 th rfl ?_)|(refine QW rfl rfl rfl rfl rfl rfl (by omega) ?_;refine G0 th rfl ?_))
    all_goals first|(exfalso;simp only[List.length_map]at hb;omega)|(exfalso;revert hb;simp;done)|exact QK (by exact⟨⟨_,rfl,.refl _⟩,⟨_,rfl,.refl _⟩,⟨_,rfl,.refl _⟩,⟨_,rfl,.refl _⟩,⟨_,rfl,.refl _⟩,⟨_,rfl,GY (by omega)⟩,trivial⟩) (by exact⟨⟨_,rfl,.refl _⟩,⟨_,rfl,.refl _⟩,⟨_,rfl,.refl _⟩,trivial⟩) rfl rfl rfl hih
  ·rw[if_neg (fun h=>hr ⟨h.1,h.2.1⟩)]at hst
   have hih:=ih (k+1) wait ⟨hlt,hst,hre⟩ (by omega)
   clear ih hst
   generalize l[k]=z at hx hr
   repeat'(first|refine gc_ rfl ?_|(refine G1 ?_;refine G0 th rfl ?_)|(refine G9 mix rfl rfl ?_;refine G3 th rfl ?_)|(refine G5 mix rfl rfl ?_;refine GJ th rfl ?_)|refine G2 ?_|refine G4 ?_|refine G6 ?_ rfl rfl|((first|refine G8 rfl rfl ?_ ?_|refine GG rfl rfl rfl ?_ ?_|refine Q1 rfl ?_ ?_)<;>intro hb<;>(try simp only[hbL]at hb)<;>first|(exfalso;omega)|refine G0 th rfl ?_|refine G3 th rfl ?_|skip)|((first|refine K2 th rfl rfl rfl rfl rfl rfl rfl rfl rfl k _ rfl hx ?_|refine QW rfl rfl rfl rfl rfl rfl (by omega) ?_);refine G0 th rfl ?_))
   all_goals first|(exfalso;simp only[List.length_map]at hb;omega)|(exfalso;rw[metR_len]at *;omega)|exact QK (by exact⟨⟨_,rfl,.refl _⟩,⟨_,rfl,.refl _⟩,⟨_,rfl,.refl _⟩,⟨_,rfl,.refl _⟩,⟨_,rfl,.refl _⟩,⟨_,rfl,GY (by omega)⟩,trivial⟩) (by exact⟨⟨_,rfl,.refl _⟩,⟨_,rfl,.refl _⟩,⟨_,rfl,.refl _⟩,trivial⟩) rfl rfl rfl hih
 have hke:k=l.length:=by omega
 rw[hke,List.drop_length]at hst
 have hw0:waitL p role l=bfsH (passA p role) (p.points.length+1 - 0) 0 wait:=by unfold waitL;rw[←hst];rfl
 clear hst ih hk
 repeat'(first|refine gc_ rfl ?_|(refine G1 ?_;refine G0 th rfl ?_)|(refine G9 mix rfl rfl ?_;refine G3 th rfl ?_)|(refine G5 mix rfl rfl ?_;refine GJ th rfl ?_)|refine G2 ?_|refine G4 ?_|refine G6 ?_ rfl rfl|((first|refine G8 rfl rfl ?_ ?_|refine GG rfl rfl rfl ?_ ?_|refine Q1 rfl ?_ ?_)<;>intro hb<;>(try simp only[hbL]at hb)<;>first|(exfalso;omega)|refine G0 th rfl ?_|refine G3 th rfl ?_|skip))
 refine g_loop2 (fun(k:Nat) (s:List Int)=>k≤s.length∧waitL p role l=bfsH (passA p role) (p.points.length+1 - k) k s∧Reached p.g s)
  (fun k _=>[(1,.v (C1 (.str role))),(3,.v (.one (.ptr 3 0))),(7,.v (.one (.own 18))),(8,.v (.one (.own 200))),(10,.v (C1 (.int .i64 (k:Int))))])
  (fun _ s=>spR p s) (fun k _=>p.points.length - k) 0 wait ⟨Nat.zero_le _,hw0,hre⟩
  (fun a w h=>h.sub (by exact⟨⟨_,rfl,.refl _⟩,⟨_,rfl,.refl _⟩,⟨_,rfl,.refl _⟩,⟨_,rfl,.refl _⟩,⟨_,rfl,GY rfl⟩,trivial⟩) (by exact⟨⟨_,rfl,.refl _⟩,⟨_,rfl,.refl _⟩,⟨_,rfl,.refl _⟩,trivial⟩) rfl rfl rfl) (fun k s hk ih=>?_)
 clear hw0 hre hwl hke
 clear wait
 generalize s=wait at hk⊢
 obtain⟨hk,hst,hre⟩:=hk
 have hwl:=hre.len
 by_cases hlt:k < wait.length
 ·have hxr:=hre.range _ (List.getElem_mem hlt)
  rw[hgl]at hxr
  have hxw:(wait.map fun r=>[CT.int .i64 r])[k]? =some [.int .i64 wait[k]]:=by simp[hlt]
  have hxp:=pntAt_get hxr
  have hwi:=withinR_c (Q5 p wait[k]) role
  obtain⟨x,hxx⟩:∃x,x=Q5 p wait[k]:=⟨_,rfl⟩
  have hx6:x.arms.length≤6:=by
   rcases pntAt_arms hv wait[k]with h1|h1
   ·rw[←hxx]at h1;rw[h1];simp
   ·rw[←hxx]at h1;exact(arms_all h1).1.2
  have hnx:=pass_in hpin role wait[k]
  rw[show p.points.length+1 - k=(p.points.length - k)+1 by omega,bfsH_next hlt]at hst
  rw[←hxx]at hxp hwi
  obtain⟨z,hz⟩:∃z,z=wait[k]:=⟨_,rfl⟩
  rw[←hz]at hxw hxr hxp
  repeat'(first|refine gc_ rfl ?_|(refine G1 ?_;refine G0 th rfl ?_)|(refine G9 mix rfl rfl ?_;refine G3 th rfl ?_)|(refine G5 mix rfl rfl ?_;refine GJ th rfl ?_)|refine G2 ?_|refine G4 ?_|refine G6 ?_ rfl rfl|((first|refine G8 rfl rfl ?_ ?_|refine GG rfl rfl rfl ?_ ?_|refine Q1 rfl ?_ ?_)<;>intro hb<;>(try simp only[hbL]at hb)<;>first|(exfalso;omega)|refine G0 th rfl ?_|refine G3 th rfl ?_|skip)|((first|refine e_idxoU th rfl rfl rfl rfl rfl rfl rfl rfl rfl rfl k rfl (by simpa using hlt) ?_|refine e_loadaU th _ rfl rfl rfl rfl hxw rfl rfl rfl rfl rfl ?_|refine e_idx th rfl rfl rfl rfl rfl rfl rfl rfl rfl z.toNat _ (by omega) hxp ?_);refine GJ th rfl ?_))
  refine g_loop2 (fun(m:Nat) (s:List Int)=>m≤x.arms.length∧(inP x role=true→m=0)∧s=(if inP x role then wait else bfsIn wait (x.arms.take m))∧Reached p.g s)
   (fun m _=>[(1,.v (C1 (.str role))),(3,.v (.one (.ptr 3 0))),(7,.v (.one (.own 18))),(8,.v (.one (.own 200))),(10,.v (C1 (.int .i64 (k:Int)))),(11,.v (.one (.ptr 11 0))),(12,.v (C1 (.int .i64 (m:Int))))])
   (fun _ s=>[(3,.box (p.cs.map SC.c)),(11,.box (x.cs.map SC.c)),(18,.arr false 4 1 (metR p.points.length s)),(200,.arr false 3 1 (s.map fun r=>[CT.int .i64 r]))])
   (fun m _=>x.arms.length - m) 0 wait ⟨Nat.zero_le _,fun _=>rfl,by split<;>rfl,hre⟩
   (fun a w h=>h.sub (by exact⟨⟨_,rfl,.refl _⟩,⟨_,rfl,.refl _⟩,⟨_,rfl,.refl _⟩,⟨_,rfl,.refl _⟩,⟨_,rfl,.refl _⟩,⟨_,rfl,.refl _⟩,⟨_,rfl,GY rfl⟩,trivial⟩) (by(repeat refine⟨⟨_,rfl,.refl _⟩,?_⟩);trivial) rfl rfl rfl) (fun m s hm ih2=>?_)
  obtain⟨hm,hm0,hs,hre'⟩:=hm
  have hwl':=hre'.len
  by_cases hin:inP x role=true
  ·have hme:=hm0 hin
   rw[if_pos hin]at hs
   subst hs hme
   rw[passA,←hxx,if_pos hin]at hst
   have hih:=ih (k+1) s ⟨hlt,by rw[hst,show p.points.length+1 - (k+1)=p.points.length - k by omega];rfl,hre'⟩ (by omega)
   rw[hin]at hwi
   clear ih ih2 hst hnx
   repeat'(first|refine gc_ rfl ?_|(refine G1 ?_;refine G0 th rfl ?_)|(refine G9 mix rfl rfl ?_;refine G3 th rfl ?_)|(refine G5 mix rfl rfl ?_;refine GJ th rfl ?_)|refine G2 ?_|refine G4 ?_|refine G6 ?_ rfl rfl|((first|refine G8 rfl rfl ?_ ?_|refine GG rfl rfl rfl ?_ ?_|refine Q1 rfl ?_ ?_)<;>intro hb<;>(try simp only[hbL]at hb)<;>first|(exfalso;omega)|refine G0 th rfl ?_|refine G3 th rfl ?_|skip)|((first|refine Q4 hwi [] rfl rfl rfl rfl rfl rfl rfl rfl rfl rfl ?_|refine QW rfl rfl rfl rfl rfl rfl (by omega) ?_);refine G0 th rfl ?_))
   all_goals first|(exfalso;revert hb;simp;done)|exact QK (by exact⟨⟨_,rfl,.refl _⟩,⟨_,rfl,.refl _⟩,⟨_,rfl,.refl _⟩,⟨_,rfl,.refl _⟩,⟨_,rfl,GY (by omega)⟩,trivial⟩) (by exact⟨⟨_,rfl,.refl _⟩,⟨_,rfl,.refl _⟩,⟨_,rfl,.refl _⟩,trivial⟩) rfl rfl rfl hih
  ·rw[if_neg hin]at hs
   have hin2:inP x role=false:=by simpa using hin
   rw[hin2]at hwi
   rw[passA,←hxx,if_neg hin]at hst hnx
   by_cases hmt:m < x.arms.length
   ·have hxa:(x.arms.map Arm.cs)[m]? =some (x.arms[m]).cs:=by simp[hmt]
    have hrg:=hnx _ (List.getElem_mem hmt)
    rw[hgl]at hrg
    have hget:=metR_get (l:=s) hrg
    have hset:=metR_set (l:=s) hrg
    have hal:(x.arms[m]).next.toNat < (metR p.points.length s).length:=by rw[metR_len];omega
    have hstep:bfsIn wait (x.arms.take (m+1))=if(x.arms[m]).next∈s then s else s++[(x.arms[m]).next]:=by
     rw[List.take_succ_eq_append_getElem hmt,bfsIn_append,←hs];rfl
    cases hmm:memB s (x.arms[m]).next with
    |true=>
     have hins:(x.arms[m]).next∈s:=by simpa[memB]using hmm
     rw[if_pos hins]at hstep
     rw[hmm]at hget
     have hih2:=ih2 (m+1) s ⟨hmt,fun h=>absurd h hin,by rw[if_neg hin,hstep],hre'⟩ (by omega)
     clear ih ih2 hst hset hstep hnx
     generalize x.arms[m]=a at hxa hrg hget hal
     repeat'(first|refine gc_ rfl ?_|(refine G1 ?_;refine G0 th rfl ?_)|(refine G9 mix rfl rfl ?_;refine G3 th rfl ?_)|(refine G5 mix rfl rfl ?_;refine GJ th rfl ?_)|refine G2 ?_|refine G4 ?_|refine G6 ?_ rfl rfl|((first|refine G8 rfl rfl ?_ ?_|refine GG rfl rfl rfl ?_ ?_|refine Q1 rfl ?_ ?_)<;>intro hb<;>(try simp only[hbL]at hb)<;>first|(exfalso;omega)|refine G0 th rfl ?_|refine G3 th rfl ?_|skip)|((first|refine Q4 hwi [] rfl rfl rfl rfl rfl rfl rfl rfl rfl rfl ?_|refine K2 th rfl rfl rfl rfl rfl rfl rfl rfl rfl m _ rfl hxa ?_|refine s_idxo th rfl rfl rfl rfl rfl rfl rfl rfl rfl rfl a.next.toNat (by omega) hal ?_|refine s_loada th _ rfl rfl rfl rfl hget rfl rfl rfl rfl rfl ?_|refine QW rfl rfl rfl rfl rfl rfl (by omega) ?_);refine G0 th rfl ?_))
     all_goals first|(exfalso;simp only[List.length_map]at hb;omega)|(exfalso;revert hb;simp;done)|exact QK (by exact⟨⟨_,rfl,.refl _⟩,⟨_,rfl,.refl _⟩,⟨_,rfl,.refl _⟩,⟨_,rfl,.refl _⟩,⟨_,rfl,.refl _⟩,⟨_,rfl,.refl _⟩,⟨_,rfl,GY (by omega)⟩,trivial⟩) (by(repeat refine⟨⟨_,rfl,.refl _⟩,?_⟩);trivial) rfl rfl rfl hih2
    |false=>
     have hins:(x.arms[m]).next∉s:=notMem_of hmm
     rw[if_neg hins]at hstep
     rw[hmm]at hget
     have hre2:Reached p.g (s++[(x.arms[m]).next]):=by
      have:=startL_ok [(x.arms[m]).next] hre'
      rw[hgl]at this
      rwa [show startL p.points.length s [(x.arms[m]).next]=s++[(x.arms[m]).next]from if_pos ⟨hrg.1,hrg.2,hins⟩]at this
     have hih2:=ih2 (m+1) (s++[(x.arms[m]).next]) ⟨hmt,fun h=>absurd h hin,by rw[if_neg hin,hstep],hre2⟩ (by omega)
     rw[←hset,List.map_append]at hih2
     clear ih ih2 hst hset hstep hnx hre2
     generalize x.arms[m]=a at hxa hrg hget hal hih2
     repeat'(first|refine gc_ rfl ?_|(refine G1 ?_;refine G0 th rfl ?_)|(refine G9 mix rfl rfl ?_;refine G3 th rfl ?_)|(refine G5 mix rfl rfl ?_;refine GJ th rfl ?_)|refine G2 ?_|refine G4 ?_|refine G6 ?_ rfl rfl|((first|refine G8 rfl rfl ?_ ?_|refine GG rfl rfl rfl ?_ ?_|refine Q1 rfl ?_ ?_)<;>intro hb<;>(try simp only[hbL]at hb)<;>first|(exfalso;omega)|refine G0 th rfl ?_|refine G3 th rfl ?_|skip)|((first|refine Q4 hwi [] rfl rfl rfl rfl rfl rfl rfl rfl rfl rfl ?_|refine K2 th rfl rfl rfl rfl rfl rfl rfl rfl rfl m _ rfl hxa ?_|refine s_idxo th rfl rfl rfl rfl rfl rfl rfl rfl rfl rfl a.next.toNat (by omega) hal ?_|refine s_loada th _ rfl rfl rfl rfl hget rfl rfl rfl rfl rfl ?_|refine s_storea th rfl rfl rfl rfl rfl rfl rfl rfl rfl rfl rfl hal ?_);refine G0 th rfl ?_)|(refine s_append th rfl rfl rfl rfl rfl rfl rfl rfl rfl rfl rfl rfl rfl rfl rfl (by constructor<;>simp<;>omega) ?_;refine G0 th rfl ?_)|(refine QW rfl rfl rfl rfl rfl rfl (by omega) ?_;refine G0 th rfl ?_))
     all_goals first|(exfalso;simp only[List.length_map]at hb;omega)|(exfalso;revert hb;simp;done)|exact QK (by exact⟨⟨_,rfl,.refl _⟩,⟨_,rfl,.refl _⟩,⟨_,rfl,.refl _⟩,⟨_,rfl,.refl _⟩,⟨_,rfl,.refl _⟩,⟨_,rfl,.refl _⟩,⟨_,rfl,GY (by omega)⟩,trivial⟩) (by(repeat refine⟨⟨_,rfl,.refl _⟩,?_⟩);trivial) rfl rfl rfl hih2
   ·rw[show x.arms.take m=x.arms from List.take_of_length_le (by omega)]at hs
    obtain⟨r,hr⟩:=bfsIn_app x.arms wait
    rw[←hs]at hst hr
    have hih:=ih (k+1) s ⟨by rw[hr,List.length_append];omega,by rw[hst,show p.points.length+1 - (k+1)=p.points.length - k by omega],hre'⟩ (by omega)
    clear ih ih2 hst hnx
    repeat'(first|refine gc_ rfl ?_|(refine G1 ?_;refine G0 th rfl ?_)|(refine G9 mix rfl rfl ?_;refine G3 th rfl ?_)|(refine G5 mix rfl rfl ?_;refine GJ th rfl ?_)|refine G2 ?_|refine G4 ?_|refine G6 ?_ rfl rfl|((first|refine G8 rfl rfl ?_ ?_|refine GG rfl rfl rfl ?_ ?_|refine Q1 rfl ?_ ?_)<;>intro hb<;>(try simp only[hbL]at hb)<;>first|(exfalso;omega)|refine G0 th rfl ?_|refine G3 th rfl ?_|skip)|(refine QW rfl rfl rfl rfl rfl rfl (by omega) ?_;refine G0 th rfl ?_))
    all_goals first|(exfalso;simp only[List.length_map]at hb;omega)|exact QK (by exact⟨⟨_,rfl,.refl _⟩,⟨_,rfl,.refl _⟩,⟨_,rfl,.refl _⟩,⟨_,rfl,.refl _⟩,⟨_,rfl,GY (by omega)⟩,trivial⟩) (by exact⟨⟨_,rfl,.refl _⟩,⟨_,rfl,.refl _⟩,⟨_,rfl,.refl _⟩,trivial⟩) rfl rfl rfl hih
 have hke2:k=wait.length:=by omega
 rw[show p.points.length+1 - k=(p.points.length - k)+1 by omega,hke2,bfsH_end]at hst
 clear ih hk
 repeat'(first|refine gc_ rfl ?_|(refine G1 ?_;refine G0 th rfl ?_)|(refine G9 mix rfl rfl ?_;refine G3 th rfl ?_)|(refine G5 mix rfl rfl ?_;refine GJ th rfl ?_)|refine G2 ?_|refine G4 ?_|refine G6 ?_ rfl rfl|((first|refine G8 rfl rfl ?_ ?_|refine GG rfl rfl rfl ?_ ?_|refine Q1 rfl ?_ ?_)<;>intro hb<;>(try simp only[hbL]at hb)<;>first|(exfalso;omega)|refine G0 th rfl ?_|refine G3 th rfl ?_|skip))
 refine g_adopt 13 201 3 1 rfl rfl rfl ?_
 refine J8 (fun i:Nat=>i≤p.points.length)
  (fun i=>[(7,.v (.one (.own 18))),(13,.v (.one (.own 201))),(14,.v (C1 (.int .i64 (i:Int))))])
  (fun i=>[(18,.arr false 4 1 (metR p.points.length wait)),(201,.arr false 3 1 ((sub1 p role l i).map fun r=>[CT.int .i64 r]))])
  (fun i=>p.points.length - i) 0 (Nat.zero_le _)
  (fun a w h=>h.sub (by exact⟨⟨_,rfl,.refl _⟩,⟨_,rfl,.refl _⟩,⟨_,rfl,GY rfl⟩,trivial⟩) (by exact⟨⟨_,rfl,.refl _⟩,⟨_,rfl,le_arr rfl⟩,trivial⟩) rfl rfl rfl) (fun i hi ih=>?_)
 have hsl:=sub1_len (p:=p) (role:=role) l i
 have hml:((metR p.points.length wait).length:Int)=(p.points.length:Int):=by rw[metR_len]
 by_cases hlt2:i < p.points.length
 ·have hget:=metR_get (l:=wait) (n:=p.points.length) (a:=(i:Int)) ⟨by omega,by omega⟩
  rw[Int.toNat_natCast]at hget
  have hal:i < (metR p.points.length wait).length:=by rw[metR_len];omega
  have hih:=ih (i+1) hlt2 (by omega)
  cases hm:memB wait (i:Int)with
  |true=>
   have hin:(i:Int)∈waitL p role l:=by rw[hst];simpa[memB]using hm
   rw[sub1_yes hin,List.map_append]at hih
   rw[hm]at hget
   clear ih
   repeat'(first|refine gc_ rfl ?_|(refine G1 ?_;refine G0 th rfl ?_)|(refine G9 mix rfl rfl ?_;refine G3 th rfl ?_)|(refine G5 mix rfl rfl ?_;refine GJ th rfl ?_)|refine G2 ?_|refine G4 ?_|refine G6 ?_ rfl rfl|((first|refine G8 rfl rfl ?_ ?_|refine GG rfl rfl rfl ?_ ?_|refine Q1 rfl ?_ ?_)<;>intro hb<;>(try simp only[hbL]at hb)<;>first|(exfalso;omega)|refine G0 th rfl ?_|refine G3 th rfl ?_|skip)|((first|refine s_idxo th rfl rfl rfl rfl rfl rfl rfl rfl rfl rfl i rfl hal ?_|refine s_loada th _ rfl rfl rfl rfl hget rfl rfl rfl rfl rfl ?_);refine G0 th rfl ?_)|(refine s_append th rfl rfl rfl rfl rfl rfl rfl rfl rfl rfl rfl rfl rfl rfl rfl (by constructor<;>simp<;>omega) ?_;refine G0 th rfl ?_)|(refine QW rfl rfl rfl rfl rfl rfl (by omega) ?_;refine G0 th rfl ?_))
   all_goals first|(exfalso;revert hb;simp;done)|(exfalso;omega)|exact QK (by exact⟨⟨_,rfl,.refl _⟩,⟨_,rfl,.refl _⟩,⟨_,rfl,GY (by omega)⟩,trivial⟩) (by exact⟨⟨_,rfl,.refl _⟩,⟨_,rfl,.refl _⟩,trivial⟩) rfl rfl rfl hih
  |false=>
   have hin:(i:Int)∉waitL p role l:=by rw[hst];exact notMem_of hm
   rw[sub1_no hin]at hih
   rw[hm]at hget
   clear ih
   repeat'(first|refine gc_ rfl ?_|(refine G1 ?_;refine G0 th rfl ?_)|(refine G9 mix rfl rfl ?_;refine G3 th rfl ?_)|(refine G5 mix rfl rfl ?_;refine GJ th rfl ?_)|refine G2 ?_|refine G4 ?_|refine G6 ?_ rfl rfl|((first|refine G8 rfl rfl ?_ ?_|refine GG rfl rfl rfl ?_ ?_|refine Q1 rfl ?_ ?_)<;>intro hb<;>(try simp only[hbL]at hb)<;>first|(exfalso;omega)|refine G0 th rfl ?_|refine G3 th rfl ?_|skip)|((first|refine s_idxo th rfl rfl rfl rfl rfl rfl rfl rfl rfl rfl i rfl hal ?_|refine s_loada th _ rfl rfl rfl rfl hget rfl rfl rfl rfl rfl ?_|refine QW rfl rfl rfl rfl rfl rfl (by omega) ?_);refine G0 th rfl ?_))
   all_goals first|(exfalso;revert hb;simp;done)|(exfalso;omega)|exact QK (by exact⟨⟨_,rfl,.refl _⟩,⟨_,rfl,.refl _⟩,⟨_,rfl,GY (by omega)⟩,trivial⟩) (by exact⟨⟨_,rfl,.refl _⟩,⟨_,rfl,.refl _⟩,trivial⟩) rfl rfl rfl hih
 ·have hie:i=p.points.length:=by omega
  subst hie
  rw[sub1_all]
  clear ih
  repeat'(first|refine gc_ rfl ?_|(refine G1 ?_;refine G0 th rfl ?_)|(refine G9 mix rfl rfl ?_;refine G3 th rfl ?_)|(refine G5 mix rfl rfl ?_;refine GJ th rfl ?_)|refine G2 ?_|refine G4 ?_|refine G6 ?_ rfl rfl|((first|refine G8 rfl rfl ?_ ?_|refine GG rfl rfl rfl ?_ ?_|refine Q1 rfl ?_ ?_)<;>intro hb<;>(try simp only[hbL]at hb)<;>first|(exfalso;omega)|refine G0 th rfl ?_|refine G3 th rfl ?_|skip))
  all_goals first
   |(exfalso;omega)
   |(refine g_freeze 201 rfl rfl ?_
     refine QQ th Tryz.func86 (.inr ⟨_,rfl⟩) rfl rfl rfl ?_ rfl
     exact .refl _)
end Go.Sy
