/- Contracts of the reference: near, lost; a projection under way: look. -/
import Derived.Test.YtademmkjmpgplaaGreatDoorZe
import Derived.Test.YtademmkjmpgplaaGreatDoorZb
import Derived.Test.YtademmkjmpgplaaGreatDoorMj2
set_option linter.unusedSimpArgs false
set_option linter.unusedVariables false
set_option linter.unusedSectionVars false
namespace Go.Sy
open Go.Proofs
set_option maxRecDepth 100000
attribute [local irreducible] SOps Goes DOps EOps FOps GOps
def nearF(p:Prt)(role:ByteArray)(l:List Int):List Int:=l.filter fun x=>inP (Q5 p x) role
theorem nearF_snoc{p:Prt}{role:ByteArray}{l:List Int}{k:Nat}(h:k < l.length):nearF p role (l.take (k+1))=if inP (Q5 p l[k]) role then nearF p role (l.take k)++[l[k]]else nearF p role (l.take k):=by
 unfold nearF
 rw[List.take_succ_eq_append_getElem h,List.filter_append]
 cases hb:inP (Q5 p l[k]) role<;>simp[hb]
theorem nearF_len(p:Prt)(role:ByteArray)(l:List Int):(nearF p role l).length≤l.length:=List.length_filter_le _ _
set_option maxHeartbeats 8000000 in
theorem near0R_c(p:Prt)(role:ByteArray)(l:List Int)(hr:∀x∈l,0≤x∧x < (p.points.length:Int))(hl:l.length≤1000):Con Tryz.prog 87 [] [Ag p.cs,C1 (.str role),C1 (intsT l)] (Rv (intsT (nearF p role l))) []:=by
 refine J2 (c:=_) Tryz.func87 rfl rfl rfl (by decide) fun w M0 H Z=>?_
 repeat'(first|refine gc_ rfl ?_|(refine G1 ?_;refine G0 th rfl ?_)|(refine G9 mix rfl rfl ?_;refine G3 th rfl ?_)|(refine G5 mix rfl rfl ?_;refine GJ th rfl ?_)|refine G2 ?_|refine G4 ?_|refine G6 ?_ rfl rfl|((first|refine G8 rfl rfl ?_ ?_|refine GG rfl rfl rfl ?_ ?_|refine Q1 rfl ?_ ?_)<;>intro hb<;>(try simp only[hbL]at hb)<;>first|(exfalso;omega)|refine G0 th rfl ?_|refine G3 th rfl ?_|skip))
 refine g_adopt 7 200 3 1 rfl rfl rfl ?_
 refine J8 (fun k:Nat=>k≤l.length)
  (fun k=>[(1,.v (C1 (.str role))),(2,.v (C1 (intsT l))),(3,.v (.one (.ptr 3 0))),(7,.v (.one (.own 200))),(8,.v (C1 (.int .i64 (k:Int))))])
  (fun k=>[(3,.box (p.cs.map SC.c)),(200,.arr false 3 1 ((nearF p role (l.take k)).map fun r=>[CT.int .i64 r]))])
  (fun k=>l.length - k) 0 (Nat.zero_le _)
  (fun a w h=>h.sub (by exact⟨⟨_,rfl,.refl _⟩,⟨_,rfl,.refl _⟩,⟨_,rfl,.refl _⟩,⟨_,rfl,.refl _⟩,⟨_,rfl,GY rfl⟩,trivial⟩) (by exact⟨⟨_,rfl,.refl _⟩,⟨_,rfl,le_arr rfl⟩,trivial⟩) rfl rfl rfl) (fun k hk ih=>?_)
 have hnl:=nearF_len p role (l.take k)
 rw[List.length_take]at hnl
 by_cases hlt:k < l.length
 ·have hx:(l.map fun r=>[CT.int .i64 r])[k]? =some [.int .i64 l[k]]:=by simp[hlt]
  have hxr:=hr _ (List.getElem_mem hlt)
  have hxp:=pntAt_get hxr
  have hwi:=withinR_c (Q5 p l[k]) role
  have hih:=ih (k+1) hlt (by omega)
  rw[nearF_snoc hlt]at hih
  clear ih
  cases hin:inP (Q5 p l[k]) role with
  |true=>
   rw[hin,if_pos rfl,List.map_append]at hih
   rw[hin]at hwi
   generalize Q5 p l[k]=x at hxp hwi
   generalize l[k]=z at hx hxr hxp hih
   repeat'(first|refine gc_ rfl ?_|(refine G1 ?_;refine G0 th rfl ?_)|(refine G9 mix rfl rfl ?_;refine G3 th rfl ?_)|(refine G5 mix rfl rfl ?_;refine GJ th rfl ?_)|refine G2 ?_|refine G4 ?_|refine G6 ?_ rfl rfl|((first|refine G8 rfl rfl ?_ ?_|refine GG rfl rfl rfl ?_ ?_|refine Q1 rfl ?_ ?_)<;>intro hb<;>(try simp only[hbL]at hb)<;>first|(exfalso;omega)|refine G0 th rfl ?_|refine G3 th rfl ?_|skip)|((first|refine d_idx th rfl rfl rfl rfl rfl rfl rfl rfl rfl k _ rfl hx ?_|refine d_idx th rfl rfl rfl rfl rfl rfl rfl rfl rfl z.toNat _ (by omega) hxp ?_|refine d_call hwi [] rfl rfl rfl rfl rfl rfl rfl rfl rfl rfl rfl ?_);refine G3 th rfl ?_)|(refine K2 th rfl rfl rfl rfl rfl rfl rfl rfl rfl k _ rfl hx ?_;refine G0 th rfl ?_)|(refine s_append th rfl rfl rfl rfl rfl rfl rfl rfl rfl rfl rfl rfl rfl rfl rfl (by constructor<;>simp<;>omega) ?_;refine G0 th rfl ?_)|(refine QW rfl rfl rfl rfl rfl rfl (by omega) ?_;refine G0 th rfl ?_))
   all_goals first|(exfalso;simp only[List.length_map]at hb;omega)|(exfalso;revert hb;simp;done)|exact QK (by exact⟨⟨_,rfl,.refl _⟩,⟨_,rfl,.refl _⟩,⟨_,rfl,.refl _⟩,⟨_,rfl,.refl _⟩,⟨_,rfl,GY (by omega)⟩,trivial⟩) (by exact⟨⟨_,rfl,.refl _⟩,⟨_,rfl,.refl _⟩,trivial⟩) rfl rfl rfl hih
  |false=>
   rw[hin,if_neg (by simp)]at hih
   rw[hin]at hwi
   generalize Q5 p l[k]=x at hxp hwi
   generalize l[k]=z at hx hxr hxp
   repeat'(first|refine gc_ rfl ?_|(refine G1 ?_;refine G0 th rfl ?_)|(refine G9 mix rfl rfl ?_;refine G3 th rfl ?_)|(refine G5 mix rfl rfl ?_;refine GJ th rfl ?_)|refine G2 ?_|refine G4 ?_|refine G6 ?_ rfl rfl|((first|refine G8 rfl rfl ?_ ?_|refine GG rfl rfl rfl ?_ ?_|refine Q1 rfl ?_ ?_)<;>intro hb<;>(try simp only[hbL]at hb)<;>first|(exfalso;omega)|refine G0 th rfl ?_|refine G3 th rfl ?_|skip)|((first|refine d_idx th rfl rfl rfl rfl rfl rfl rfl rfl rfl k _ rfl hx ?_|refine d_idx th rfl rfl rfl rfl rfl rfl rfl rfl rfl z.toNat _ (by omega) hxp ?_|refine d_call hwi [] rfl rfl rfl rfl rfl rfl rfl rfl rfl rfl rfl ?_);refine G3 th rfl ?_)|(refine QW rfl rfl rfl rfl rfl rfl (by omega) ?_;refine G0 th rfl ?_))
   all_goals first|(exfalso;simp only[List.length_map]at hb;omega)|(exfalso;revert hb;simp;done)|exact QK (by exact⟨⟨_,rfl,.refl _⟩,⟨_,rfl,.refl _⟩,⟨_,rfl,.refl _⟩,⟨_,rfl,.refl _⟩,⟨_,rfl,GY (by omega)⟩,trivial⟩) (by exact⟨⟨_,rfl,.refl _⟩,⟨_,rfl,.refl _⟩,trivial⟩) rfl rfl rfl hih
 ·rw[List.take_of_length_le (by omega)]
  clear ih
  repeat'(first|refine gc_ rfl ?_|(refine G1 ?_;refine G0 th rfl ?_)|(refine G9 mix rfl rfl ?_;refine G3 th rfl ?_)|(refine G5 mix rfl rfl ?_;refine GJ th rfl ?_)|refine G2 ?_|refine G4 ?_|refine G6 ?_ rfl rfl|((first|refine G8 rfl rfl ?_ ?_|refine GG rfl rfl rfl ?_ ?_|refine Q1 rfl ?_ ?_)<;>intro hb<;>(try simp only[hbL]at hb)<;>first|(exfalso;omega)|refine G0 th rfl ?_|refine G3 th rfl ?_|skip))
  all_goals first
   |(exfalso;simp only[List.length_map]at hb;omega)
   |(refine g_freeze 200 rfl rfl ?_
     refine QQ th Tryz.func87 (.inr ⟨_,rfl⟩) rfl rfl rfl ?_ rfl
     exact .refl _)
theorem span_range{p:Prt}{role:ByteArray}{l:List Int}:∀x∈spanR p role l,0≤x∧x < (p.points.length:Int):=fun x hx=>rng_mem.1 (List.mem_filter.1 hx).1
theorem span_len(p:Prt)(role:ByteArray)(l:List Int):(spanR p role l).length≤p.points.length:=sub1_len l p.points.length
theorem nearF_span(p:Prt)(role:ByteArray)(l:List Int):nearF p role (spanR p role l)=J7 p role l:=span_near l
theorem nearR6_c(p:Prt)(hv:prtB p=true)(role:ByteArray)(l:List Int):Con Tryz.prog 87 [] [Ag p.cs,C1 (.str role),C1 (intsT (spanR p role l))] (Rv (intsT (J7 p role l))) []:=by
 have hpl:=prt_len hv
 have h:=near0R_c p role (spanR p role l) span_range (by have:=span_len p role l;omega)
 rw[nearF_span]at h
 exact h
set_option maxHeartbeats 4000000 in
theorem lostR6_c(p:Prt)(hv:prtB p=true)(role:ByteArray)(x:Int):Con Tryz.prog 88 [] [Ag p.cs,C1 (.str role),C1 (.int .i64 x)] (Rv (.bool (lostL p role x))) []:=by
 have c1:=spanR_c p hv role [x] (by simp)
 have c2:=nearR6_c p hv role [x]
 unfold lostL
 generalize J7 p role [x]=n at c2⊢
 generalize spanR p role [x]=s at c1 c2
 refine J2 (c:=_) Tryz.func88 rfl rfl rfl (by decide) fun w M0 H Z=>?_
 repeat'(first|refine gc_ rfl ?_|(refine G1 ?_;refine G0 th rfl ?_)|(refine G9 mix rfl rfl ?_;refine G3 th rfl ?_)|(refine G5 mix rfl rfl ?_;refine GJ th rfl ?_)|refine G2 ?_|refine G4 ?_|refine G6 ?_ rfl rfl|((first|refine G8 rfl rfl ?_ ?_|refine GG rfl rfl rfl ?_ ?_|refine Q1 rfl ?_ ?_)<;>intro hb<;>(try simp only[hbL]at hb)<;>first|(exfalso;omega)|refine G0 th rfl ?_|refine G3 th rfl ?_|skip)|(refine DOps.step rfl (op_lit (ct:=intsT [x]) th rfl rfl rfl rfl rfl rfl rfl rfl rfl (.nn true 1 _) rfl rfl) ?_;refine G3 th rfl ?_)|((first|refine d_call c1 [] rfl rfl rfl rfl rfl rfl rfl rfl rfl rfl rfl ?_|refine d_call c2 [] rfl rfl rfl rfl rfl rfl rfl rfl rfl rfl rfl ?_);refine G3 th rfl ?_))
 all_goals
  refine QQ th Tryz.func88 (.inr ⟨_,rfl⟩) rfl rfl rfl ?_ rfl
  exact le_ct (by simp)
set_option maxHeartbeats 4000000 in
theorem sameInts6_c(l m:List Int):Con Tryz.prog 89 [] [C1 (intsT l),C1 (intsT m)] (Rv (.bool (decide (l=m)))) []:=by
 refine J2 (c:=_) Tryz.func89 rfl rfl rfl (by decide) fun w M0 H Z=>?_
 refine g_len 0 rfl fun hll=>?_
 simp only[List.length_map]at hll
 refine g_len 1 rfl fun hmm=>?_
 simp only[List.length_map]at hmm
 repeat'(first|refine gc_ rfl ?_|(refine G1 ?_;refine G0 th rfl ?_)|(refine G9 mix rfl rfl ?_;refine G3 th rfl ?_)|(refine G5 mix rfl rfl ?_;refine GJ th rfl ?_)|refine G2 ?_|refine G4 ?_|refine G6 ?_ rfl rfl|((first|refine G8 rfl rfl ?_ ?_|refine GG rfl rfl rfl ?_ ?_|refine Q1 rfl ?_ ?_)<;>intro hb<;>(try simp only[hbL]at hb)<;>first|(exfalso;omega)|refine G0 th rfl ?_|refine G3 th rfl ?_|skip)|refine QQ th Tryz.func89 (.inr ⟨_,rfl⟩) rfl rfl rfl ?_ rfl)
 ·have hne:l≠m:=fun e=>by rw[e]at hb;simp at hb
  rw[show decide (l=m)=false by simpa using hne]
  exact .refl _
 have hlen:l.length=m.length:=by omega
 refine J8 (fun k:Nat=>k≤l.length∧∀i (h:i < k) (h1:i < l.length) (h2:i < m.length),l[i]=m[i])
  (fun k=>[(0,.v (C1 (intsT l))),(0+1,.v (C1 (intsT m))),(5,.v (C1 (.int .i64 (k:Int))))])
  (fun k=>[]) (fun k=>l.length - k) 0 ⟨Nat.zero_le _,fun i h=>by omega⟩
  (fun a w h=>h.sub (by exact⟨⟨_,rfl,.refl _⟩,⟨_,rfl,.refl _⟩,⟨_,rfl,GY rfl⟩,trivial⟩) (by exact trivial) rfl rfl rfl) (fun k hk ih=>?_)
 obtain⟨hk,ha⟩:=hk
 by_cases hlt:k < l.length
 ·have hlt2:k < m.length:=by omega
  have hx:(l.map fun r=>[CT.int .i64 r])[k]? =some [.int .i64 l[k]]:=by simp[hlt]
  have hy:(m.map fun r=>[CT.int .i64 r])[k]? =some [.int .i64 m[k]]:=by simp[hlt2]
  repeat'(first|refine gc_ rfl ?_|(refine G1 ?_;refine G0 th rfl ?_)|(refine G9 mix rfl rfl ?_;refine G3 th rfl ?_)|(refine G5 mix rfl rfl ?_;refine GJ th rfl ?_)|refine G2 ?_|refine G4 ?_|refine G6 ?_ rfl rfl|((first|refine G8 rfl rfl ?_ ?_|refine GG rfl rfl rfl ?_ ?_|refine Q1 rfl ?_ ?_)<;>intro hb<;>(try simp only[hbL]at hb)<;>first|(exfalso;omega)|refine G0 th rfl ?_|refine G3 th rfl ?_|skip)|refine QQ th Tryz.func89 (.inr ⟨_,rfl⟩) rfl rfl rfl ?_ rfl|((first|refine d_idx th rfl rfl rfl rfl rfl rfl rfl rfl rfl k _ rfl hx ?_|refine d_idx th rfl rfl rfl rfl rfl rfl rfl rfl rfl k _ rfl hy ?_);refine G3 th rfl ?_)|(refine QW rfl rfl rfl rfl rfl rfl (by omega) ?_;refine G0 th rfl ?_))
  all_goals first
   |(have hne:l≠m:=eqL_no hlt hlt2 (by simpa using hb)
     rw[show decide (l=m)=false by simpa using hne];exact .refl _)
   |exact QK (by exact⟨⟨_,rfl,.refl _⟩,⟨_,rfl,.refl _⟩,⟨_,rfl,GY (by omega)⟩,trivial⟩) (by exact trivial) rfl rfl rfl (ih (k+1) ⟨hlt,fun i h h1 h2=>by
     by_cases hik:i=k
     ·subst hik;simpa using hb
     ·exact ha i (by omega) h1 h2⟩ (by omega))
 ·have he:l=m:=eqL_yes hlen fun i h1 h2=>ha i (by omega) h1 h2
  repeat'(first|refine gc_ rfl ?_|(refine G1 ?_;refine G0 th rfl ?_)|(refine G9 mix rfl rfl ?_;refine G3 th rfl ?_)|(refine G5 mix rfl rfl ?_;refine GJ th rfl ?_)|refine G2 ?_|refine G4 ?_|refine G6 ?_ rfl rfl|((first|refine G8 rfl rfl ?_ ?_|refine GG rfl rfl rfl ?_ ?_|refine Q1 rfl ?_ ?_)<;>intro hb<;>(try simp only[hbL]at hb)<;>first|(exfalso;omega)|refine G0 th rfl ?_|refine G3 th rfl ?_|skip)|refine QQ th Tryz.func89 (.inr ⟨_,rfl⟩) rfl rfl rfl ?_ rfl)
  rw[show decide (l=m)=true by simpa using he];exact .refl _
abbrev workCs(p:Prt)(role:ByteArray)(v:Value):List SC:=[.c (.str p.name),.c (Q8 p.roles),.c (pointsC p.points),.c (.str role),.c (.val v)]
def workM(p:Prt)(role:ByteArray)(v:Value)(S:List (List Int)):MM:=[(G7,.box (workCs p role v)),(1,.pool 26 1 [(v,rowsI S)])]
theorem idx_at{S:List (List Int)}{n:List Int}{k:Nat}(h:k < S.length)(ha:∀j (h:j < S.length),j < k→S[j]≠n)(he:S[k]=n):S.idxOf n=k∧n∈S:=by
 have hm:n∈S:=by rw[←he];exact List.getElem_mem h
 refine⟨?_,hm⟩
 have hlt:=List.idxOf_lt_length_of_mem hm
 have hg:=List.getElem_idxOf hlt
 rcases Nat.lt_trichotomy (S.idxOf n) k with h1|h1|h1
 ·exact absurd hg (ha _ hlt h1)
 ·exact h1
 ·exfalso
  have:=List.not_of_lt_findIdx (p:=fun x=>x==n) (xs:=S) (i:=k) (by simpa[List.idxOf]using h1)
  rw[he]at this;simp at this
set_option maxHeartbeats 32000000 in
theorem lookR_c(p:Prt)(hv:prtB p=true)(role:ByteArray)(v:Value)(S:List (List Int))(hS:S.length≤40)(set:List Int)(hsl:set.length≤1000):
 ConM Tryz.prog 43 (workM p role v S) [.one (.ptr G7 0),C1 (intsT set)] (fun _:Value=>True) (fun _=>lookT p role S set) (fun v'=>workM p role v' (JY p role S set).2):=by
 have hspan:=spanR_c p hv role set hsl
 have hnear:=nearR6_c p hv role set
 have hmx:=mix_span (role:=role) (prt_in hv) set
 have hpl:=prt_len hv
 have hal:=span_len p role set
 have har:=span_range (p:=p) (role:=role) (l:=set)
 have hlo:=fun x=>lostR6_c p hv role x
 obtain⟨nr,hnr⟩:∃nr,nr=J7 p role set:=⟨_,rfl⟩
 obtain⟨al,hal0⟩:∃al,al=spanR p role set:=⟨_,rfl⟩
 rw[←hnr]at hnear hmx
 rw[←hal0]at hspan hnear hmx hal har
 have e1:rowsI S++[[intsT nr]]=rowsI (S++[nr]):=by simp[rowsI]
 have hl1:((rowsI S).length:Int)=(S.length:Int):=by simp
 have hl2:((rowsI S++[[intsT nr]]).length:Int)=(S.length:Int)+1:=by simp
 refine conM_of (c:=_) Tryz.func43 rfl rfl rfl (by decide) rfl fun w M0 H Z hd=>?_
 repeat'(first|refine gc_ rfl ?_|(refine G1 ?_;refine G0 th rfl ?_)|(refine G9 mix rfl rfl ?_;refine G3 th rfl ?_)|(refine G5 mix rfl rfl ?_;refine GJ th rfl ?_)|refine G2 ?_|refine G4 ?_|refine G6 ?_ rfl rfl|((first|refine G8 rfl rfl ?_ ?_|refine GG rfl rfl rfl ?_ ?_|refine Q1 rfl ?_ ?_)<;>intro hb<;>(try simp only[hbL]at hb)<;>first|(exfalso;omega)|refine G0 th rfl ?_|refine G3 th rfl ?_|skip)|((first|refine d_call hspan [] rfl rfl rfl rfl rfl rfl rfl rfl rfl rfl rfl ?_|refine d_call hnear [] rfl rfl rfl rfl rfl rfl rfl rfl rfl rfl rfl ?_);refine G3 th rfl ?_))
 refine J8 (fun k:Nat=>k≤al.length∧(0 < nr.length→∀j (h:j < al.length),j < k→lostL p role al[j]=false))
  (fun k=>[(0,.v (.one (.ptr G7 0))),(6,.v (C1 (intsT al))),(7,.v (C1 (intsT nr))),(8,.v (C1 (.int .i64 (k:Int))))])
  (fun _=>workM p role v S)
  (fun k=>al.length - k) 0 ⟨Nat.zero_le _,fun _ j _ h=>by omega⟩
  (fun a w h=>h.sub (by exact⟨⟨_,rfl,.refl _⟩,⟨_,rfl,.refl _⟩,⟨_,rfl,.refl _⟩,⟨_,rfl,GY rfl⟩,trivial⟩) (by exact⟨⟨_,rfl,.refl _⟩,⟨_,rfl,.refl _⟩,trivial⟩) rfl rfl rfl) (fun k hk ih=>?_)
 obtain⟨hk,ha⟩:=hk
 by_cases hlt:k < al.length∧0 < nr.length
 ·obtain⟨hlt,hn0⟩:=hlt
  have hx:(al.map fun r=>[CT.int .i64 r])[k]? =some [.int .i64 al[k]]:=by simp[hlt]
  have hlk:=hlo al[k]
  cases hL:lostL p role al[k]with
  |true=>
   have hmt:mixE p role set=true:=by
    rw[hmx,decide_eq_true hn0,Bool.true_and,List.any_eq_true]
    exact⟨al[k],List.getElem_mem hlt,hL⟩
   rw[hL]at hlk
   clear ih ha hlo
   unfold lookT
   rw[look_mix hmt]
   generalize al[k]=z at hx hlk
   repeat'(first|refine gc_ rfl ?_|(refine G1 ?_;refine G0 th rfl ?_)|(refine G9 mix rfl rfl ?_;refine G3 th rfl ?_)|(refine G5 mix rfl rfl ?_;refine GJ th rfl ?_)|refine G2 ?_|refine G4 ?_|refine G6 ?_ rfl rfl|((first|refine G8 rfl rfl ?_ ?_|refine GG rfl rfl rfl ?_ ?_|refine Q1 rfl ?_ ?_)<;>intro hb<;>(try simp only[hbL]at hb)<;>first|(exfalso;omega)|refine G0 th rfl ?_|refine G3 th rfl ?_|skip)|((first|refine d_idx th rfl rfl rfl rfl rfl rfl rfl rfl rfl k _ rfl hx ?_|refine d_call hlk [] rfl rfl rfl rfl rfl rfl rfl rfl rfl rfl rfl ?_);refine G3 th rfl ?_)|(refine QW rfl rfl rfl rfl rfl rfl (by omega) ?_;refine G0 th rfl ?_))
   all_goals first|(exfalso;simp only[List.length_map]at hb;omega)|(exfalso;revert hb;simp;done)|exact JW (hd:=hd) th Tryz.func43 v (.inr ⟨_,rfl⟩) rfl rfl rfl rfl ⟨rfl,rfl,trivial⟩ rfl rfl rfl trivial
  |false=>
   have hih:=ih (k+1) ⟨hlt,fun h0 j h hj=>by
    by_cases hjk:j=k
    ·subst hjk;exact hL
    ·exact ha h0 j h (by omega)⟩ (by omega)
   rw[hL]at hlk
   clear ih ha hlo
   generalize al[k]=z at hx hlk
   repeat'(first|refine gc_ rfl ?_|(refine G1 ?_;refine G0 th rfl ?_)|(refine G9 mix rfl rfl ?_;refine G3 th rfl ?_)|(refine G5 mix rfl rfl ?_;refine GJ th rfl ?_)|refine G2 ?_|refine G4 ?_|refine G6 ?_ rfl rfl|((first|refine G8 rfl rfl ?_ ?_|refine GG rfl rfl rfl ?_ ?_|refine Q1 rfl ?_ ?_)<;>intro hb<;>(try simp only[hbL]at hb)<;>first|(exfalso;omega)|refine G0 th rfl ?_|refine G3 th rfl ?_|skip)|((first|refine d_idx th rfl rfl rfl rfl rfl rfl rfl rfl rfl k _ rfl hx ?_|refine d_call hlk [] rfl rfl rfl rfl rfl rfl rfl rfl rfl rfl rfl ?_);refine G3 th rfl ?_)|(refine QW rfl rfl rfl rfl rfl rfl (by omega) ?_;refine G0 th rfl ?_))
   all_goals first|(exfalso;simp only[List.length_map]at hb;omega)|(exfalso;revert hb;simp;done)|exact QK (by exact⟨⟨_,rfl,.refl _⟩,⟨_,rfl,.refl _⟩,⟨_,rfl,.refl _⟩,⟨_,rfl,GY (by omega)⟩,trivial⟩) (by exact⟨⟨_,rfl,.refl _⟩,⟨_,rfl,.refl _⟩,trivial⟩) rfl rfl rfl hih
 ·have hmf:mixE p role set=false:=by
   rw[hmx]
   by_cases h0:0 < nr.length
   ·have hkl:k=al.length:=by
     rcases Nat.lt_or_ge k al.length with h1|h1
     ·exact absurd ⟨h1,h0⟩ hlt
     ·omega
    have:al.any (lostL p role)=false:=List.any_eq_false.2 fun x hx=>by
     obtain⟨j,hj,rfl⟩:=List.mem_iff_getElem.1 hx
     rw[ha h0 j hj (by omega)];simp
    rw[this,Bool.and_false]
   ·rw[decide_eq_false h0,Bool.false_and]
  clear ih ha hmx hspan hnear hlo
  repeat'(first|refine gc_ rfl ?_|(refine G1 ?_;refine G0 th rfl ?_)|(refine G9 mix rfl rfl ?_;refine G3 th rfl ?_)|(refine G5 mix rfl rfl ?_;refine GJ th rfl ?_)|refine G2 ?_|refine G4 ?_|refine G6 ?_ rfl rfl|((first|refine G8 rfl rfl ?_ ?_|refine GG rfl rfl rfl ?_ ?_|refine Q1 rfl ?_ ?_)<;>intro hb<;>(try simp only[hbL]at hb)<;>first|(exfalso;omega)|refine G0 th rfl ?_|refine G3 th rfl ?_|skip))
  all_goals first|(exfalso;simp only[List.length_map]at *;omega)|skip
  all_goals
   refine J8 (fun i:Nat=>i≤S.length∧∀j (h:j < S.length),j < i→S[j]≠nr)
    (fun i=>[(0,.v (.one (.ptr G7 0))),(7,.v (C1 (intsT nr))),(9,.v (C1 (.int .i64 (i:Int))))])
    (fun _=>workM p role v S)
    (fun i=>S.length - i) 0 ⟨Nat.zero_le _,fun j _ h=>by omega⟩
    (fun a w h=>h.sub (by exact⟨⟨_,rfl,.refl _⟩,⟨_,rfl,.refl _⟩,⟨_,rfl,GY rfl⟩,trivial⟩) (by exact⟨⟨_,rfl,.refl _⟩,⟨_,rfl,.refl _⟩,trivial⟩) rfl rfl rfl) (fun i hi ih=>?_)
   obtain⟨hi,ha⟩:=hi
   by_cases hlt2:i < S.length
   ·have hx:(rowsI S)[i]? =some [intsT S[i]]:=by simp[hlt2]
    have hsame:=sameInts6_c S[i] nr
    by_cases he:S[i]=nr
    ·obtain⟨h1,h2⟩:=idx_at hlt2 ha he
     rw[decide_eq_true he]at hsame
     unfold lookT
     rw[look_old hmf (hnr▸h2),←hnr,h1]
     clear ih ha he
     generalize S[i]=z at hx hsame
     repeat'(first|refine gc_ rfl ?_|(refine G1 ?_;refine G0 th rfl ?_)|(refine G9 mix rfl rfl ?_;refine G3 th rfl ?_)|(refine G5 mix rfl rfl ?_;refine GJ th rfl ?_)|refine G2 ?_|refine G4 ?_|refine G6 ?_ rfl rfl|((first|refine G8 rfl rfl ?_ ?_|refine GG rfl rfl rfl ?_ ?_|refine Q1 rfl ?_ ?_)<;>intro hb<;>(try simp only[hbL]at hb)<;>first|(exfalso;omega)|refine G0 th rfl ?_|refine G3 th rfl ?_|skip)|((first|refine s_plen th 1 0 rfl rfl rfl rfl rfl rfl rfl rfl _ hl1 ?_|refine s_pidx th (r:=1) rfl rfl rfl rfl rfl rfl rfl rfl rfl rfl 0 rfl i rfl (by simpa using hlt2) ?_|refine s_pload th (r:=1) rfl rfl rfl rfl rfl rfl rfl rfl 0 rfl hx rfl ?_|refine Q4 hsame [] rfl rfl rfl rfl rfl rfl rfl rfl rfl rfl ?_|refine QW rfl rfl rfl rfl rfl rfl (by omega) ?_);refine G0 th rfl ?_))
     all_goals first|(exfalso;omega)|(exfalso;revert hb;simp;done)|exact JW (hd:=hd) th Tryz.func43 v (.inr ⟨_,rfl⟩) rfl rfl rfl rfl ⟨rfl,rfl,trivial⟩ rfl rfl rfl trivial
    ·have hih:=ih (i+1) ⟨hlt2,fun j h hj=>by
      by_cases hjk:j=i
      ·subst hjk;exact he
      ·exact ha j h (by omega)⟩ (by omega)
     rw[decide_eq_false he]at hsame
     clear ih ha he
     generalize S[i]=z at hx hsame
     repeat'(first|refine gc_ rfl ?_|(refine G1 ?_;refine G0 th rfl ?_)|(refine G9 mix rfl rfl ?_;refine G3 th rfl ?_)|(refine G5 mix rfl rfl ?_;refine GJ th rfl ?_)|refine G2 ?_|refine G4 ?_|refine G6 ?_ rfl rfl|((first|refine G8 rfl rfl ?_ ?_|refine GG rfl rfl rfl ?_ ?_|refine Q1 rfl ?_ ?_)<;>intro hb<;>(try simp only[hbL]at hb)<;>first|(exfalso;omega)|refine G0 th rfl ?_|refine G3 th rfl ?_|skip)|((first|refine s_plen th 1 0 rfl rfl rfl rfl rfl rfl rfl rfl _ hl1 ?_|refine s_pidx th (r:=1) rfl rfl rfl rfl rfl rfl rfl rfl rfl rfl 0 rfl i rfl (by simpa using hlt2) ?_|refine s_pload th (r:=1) rfl rfl rfl rfl rfl rfl rfl rfl 0 rfl hx rfl ?_|refine Q4 hsame [] rfl rfl rfl rfl rfl rfl rfl rfl rfl rfl ?_|refine QW rfl rfl rfl rfl rfl rfl (by omega) ?_);refine G0 th rfl ?_))
     all_goals first|(exfalso;omega)|(exfalso;revert hb;simp;done)|exact QK (by exact⟨⟨_,rfl,.refl _⟩,⟨_,rfl,.refl _⟩,⟨_,rfl,GY (by omega)⟩,trivial⟩) (by exact⟨⟨_,rfl,.refl _⟩,⟨_,rfl,.refl _⟩,trivial⟩) rfl rfl rfl hih
   ·have hin:nr∉S:=fun hm=>by
     obtain⟨j,hj,e⟩:=List.mem_iff_getElem.1 hm
     exact ha j hj (by omega) e
    clear ih ha
    by_cases hfl:S.length=40
    ·unfold lookT
     rw[look_full hmf (hnr▸hin) hfl]
     repeat'(first|refine gc_ rfl ?_|(refine G1 ?_;refine G0 th rfl ?_)|(refine G9 mix rfl rfl ?_;refine G3 th rfl ?_)|(refine G5 mix rfl rfl ?_;refine GJ th rfl ?_)|refine G2 ?_|refine G4 ?_|refine G6 ?_ rfl rfl|((first|refine G8 rfl rfl ?_ ?_|refine GG rfl rfl rfl ?_ ?_|refine Q1 rfl ?_ ?_)<;>intro hb<;>(try simp only[hbL]at hb)<;>first|(exfalso;omega)|refine G0 th rfl ?_|refine G3 th rfl ?_|skip)|(refine s_plen th 1 0 rfl rfl rfl rfl rfl rfl rfl rfl _ hl1 ?_;refine G0 th rfl ?_))
     all_goals first|(exfalso;omega)|exact JW (hd:=hd) th Tryz.func43 v (.inr ⟨_,rfl⟩) rfl rfl rfl rfl ⟨rfl,rfl,trivial⟩ rfl rfl rfl trivial
    ·unfold lookT
     rw[look_new hmf (hnr▸hin) hfl,←hnr]
     repeat'(first|refine gc_ rfl ?_|(refine G1 ?_;refine G0 th rfl ?_)|(refine G9 mix rfl rfl ?_;refine G3 th rfl ?_)|(refine G5 mix rfl rfl ?_;refine GJ th rfl ?_)|refine G2 ?_|refine G4 ?_|refine G6 ?_ rfl rfl|((first|refine G8 rfl rfl ?_ ?_|refine GG rfl rfl rfl ?_ ?_|refine Q1 rfl ?_ ?_)<;>intro hb<;>(try simp only[hbL]at hb)<;>first|(exfalso;omega)|refine G0 th rfl ?_|refine G3 th rfl ?_|skip)|((first|refine s_plen th 1 0 rfl rfl rfl rfl rfl rfl rfl rfl _ hl1 ?_|refine s_plen th 1 0 rfl rfl rfl rfl rfl rfl rfl rfl _ hl2 ?_);refine G0 th rfl ?_)|(refine s_freeze 85 rfl rfl ?_;refine s_pappend th (i:=1) rfl rfl rfl rfl rfl rfl rfl rfl rfl rfl rfl rfl rfl rfl 0 rfl (by constructor<;>simp<;>omega) (fun v'=>?_);refine G0 th rfl ?_)|(refine s_subI rfl rfl rfl rfl rfl rfl (by omega) ?_;refine G0 th rfl ?_))
     all_goals first
      |(exfalso;omega)
      |(simp only[List.set_cons_zero]
        rw[e1]
        exact JW (hd:=hd) th Tryz.func43 v' (.inr ⟨_,rfl⟩) rfl (by rw[show(S.length:Int)+1 - 1=(S.length:Int) by omega];rfl) rfl rfl ⟨rfl,rfl,trivial⟩ rfl rfl rfl trivial)
end Go.Sy
