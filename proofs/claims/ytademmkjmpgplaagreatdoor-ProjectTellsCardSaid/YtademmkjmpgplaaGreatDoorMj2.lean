/- Contracts: strconv.Itoa at small numbers; project.key; keys of different sets differ. -/
import Derived.Test.YtademmkjmpgplaaGreatDoorQa
import Derived.Test.YtademmkjmpgplaaGreatDoorBu1
import Derived.Test.YtademmkjmpgplaaGreatDoorLayp
import Derived.Test.YtademmkjmpgplaaGreatDoorMj1
import Derived.Test.YtademmkjmpgplaaGreatDoorBw2
import Derived.Test.YtademmkjmpgplaaGreatDoorMj4
import Derived.Test.YtademmkjmpgplaaGreatDoorSymZp
set_option linter.unusedSimpArgs false
set_option linter.unusedVariables false
set_option linter.unusedSectionVars false
namespace Go.Sy
open Go.Proofs
set_option maxRecDepth 100000
attribute [local irreducible] SOps Goes DOps EOps
theorem itoaJ_c(k:Nat)(hk:k < 100):Con Tryz.prog 102 [] [C1 (.int .i64 (k:Int))] (Rv (.str ⟨(digs k).toArray⟩)) []:=by
 refine⟨callOK (c:=_) Tryz.func102 rfl rfl,fun w M0 H Z vs hpre hargs=>?_⟩
 obtain⟨v,rfl⟩:∃v,vs=[v]:=by
  match vs,hargs.1 with
  |[v],_=>exact⟨v,rfl⟩
 obtain⟨u,hu,hr⟩:=hargs.2 0 _ rfl
 simp only[List.getElem?_cons_zero,Option.some.injEq]at hu
 subst hu
 have hv:v=.int .i64 (k:Int):=RepC.int_inv hr
 subst hv
 refine Calls.mono (Any.strconv_Itoa_small {Tryz.laysItoa with} k hk w) ?_
 rintro e w' ⟨rfl,rfl⟩
 refine⟨_,rfl,Ext.refl _ _,fun p hp=>by simp[JG]at hp,?_⟩
 rw[digs_eq hk]
 exact RepC.str _
abbrev itJ(m:Int):ByteArray:=⟨(digs m.toNat).toArray⟩
theorem itoaJ_i(m:Int)(h0:0≤m)(h1:m < 100):Con Tryz.prog 102 [] [C1 (.int .i64 m)] (Rv (.str (itJ m))) []:=by
 have:=itoaJ_c m.toNat (by omega)
 rw[show((m.toNat:Nat):Int)=m by omega]at this
 exact this
theorem digsJ_len(k:Nat):(digs k).length≤2:=by unfold digs;split<;>simp
theorem itJ_size(m:Int):(itJ m).size≤2:=by
 have:=digsJ_len m.toNat
 simpa[itJ,ByteArray.size]using this
def keyU(l:List Int):List UInt8:=l.flatMap fun m=>digs m.toNat++[32]
def keyJ(l:List Int):ByteArray:=⟨(keyU l).toArray⟩
theorem baJ_ext{a b:ByteArray}(h:a.data.toList=b.data.toList):a=b:=by
 obtain⟨⟨a⟩⟩:=a
 obtain⟨⟨b⟩⟩:=b
 simp at h;rw[h]
theorem keyJ_snoc(l:List Int)(m:Int):keyJ l++itJ m++⟨#[32]⟩=keyJ (l++[m]):=by
 apply baJ_ext
 simp[keyJ,keyU,itJ]
theorem keyU_len:∀l:List Int,(keyU l).length≤3 * l.length
 |[]=>by simp[keyU]
 |m::l=>by
  have h1:=digsJ_len m.toNat
  have h2:=keyU_len l
  simp only[keyU,List.flatMap_cons,List.length_append,List.length_cons,List.length_nil]at h2⊢
  omega
theorem keyJ_size(l:List Int):(keyJ l).size≤3 * l.length:=by
 have:=keyU_len l
 simpa[keyJ,ByteArray.size]using this
def SmallL(l:List Int):Prop:=∀a∈l,0≤a∧a < 100
theorem keyU_inj:∀{l m:List Int},SmallL l→SmallL m→keyU l=keyU m→l=m
 |[],[],_,_,_=>rfl
 |[],y::m,_,_,h=>by
  have:=congrArg List.length h
  simp[keyU]at this
 |x::l,[],_,_,h=>by
  have:=congrArg List.length h
  simp[keyU]at this
 |x::l,y::m,h1,h2,h=>by
  obtain⟨a0,a1⟩:=h1 x List.mem_cons_self
  obtain⟨b0,b1⟩:=h2 y List.mem_cons_self
  simp only[keyU,List.flatMap_cons,List.append_assoc,List.singleton_append]at h
  obtain⟨e1,e2⟩:=pln_split (digs_pln (show x.toNat < 100 by omega)) (digs_pln (show y.toNat < 100 by omega)) (show sepd (32::_)from Or.inl rfl) (show sepd (32::_)from Or.inl rfl) h
  injection e2 with _ e2
  have e3:=digs_inj (show x.toNat < 100 by omega) (show y.toNat < 100 by omega) e1
  rw[keyU_inj (fun z hz=>h1 z (List.mem_cons_of_mem _ hz)) (fun z hz=>h2 z (List.mem_cons_of_mem _ hz)) e2,show x=y by omega]
theorem keyJ_inj{l m:List Int}(h1:SmallL l)(h2:SmallL m)(h:keyJ l=keyJ m):l=m:=by
 apply keyU_inj h1 h2
 have:=congrArg (fun b:ByteArray=>b.data.toList) h
 simpa[keyJ]using this
theorem keys_mem{S:List (List Int)}(hS:∀m∈S,SmallL m){l:List Int}(hl:SmallL l):keyJ l∈S.map keyJ↔l∈S:=by
 constructor
 ·intro h
  obtain⟨m,hm,e⟩:=List.mem_map.1 h
  rw[←keyJ_inj (hS m hm) hl e];exact hm
 ·exact fun h=>List.mem_map_of_mem h
theorem idx_map{α β:Type}[BEq α][LawfulBEq α][DecidableEq β](f:α→β):∀{S:List α} {l:α},l∈S→(∀m∈S,f m=f l→m=l)→(S.map f).idxOf (f l)=S.idxOf l
 |[],_,h,_=>by cases h
 |m::S,l,h,hi=>by
  rw[List.map_cons,List.idxOf_cons,List.idxOf_cons]
  by_cases e:m=l
  ·subst e;simp
  ·have e2:f m≠f l:=fun q=>e (hi m List.mem_cons_self q)
   have e3:(f m==f l)=false:=by simpa using e2
   have e4:(m==l)=false:=by simpa using e
   rw[e3,e4,cond_false,cond_false,idx_map f ((List.mem_cons.1 h).resolve_left (fun q=>e q.symm)) fun x hx=>hi x (List.mem_cons_of_mem _ hx)]
theorem keys_idx{S:List (List Int)}(hS:∀m∈S,SmallL m){l:List Int}(hl:SmallL l)(h:l∈S):numI (S.map keyJ) (keyJ l)=S.idxOf l:=by
 unfold numI
 rw[if_pos (List.mem_map_of_mem h)]
 exact idx_map keyJ h fun m hm e=>keyJ_inj (hS m hm) hl e
theorem leJ_str{a b:ByteArray}(h:a=b):LeT (.v (.one (.c (.str a)))) (.v (.one (.c (.str b)))):=by subst h;exact .refl _
set_option maxHeartbeats 4000000 in
theorem key_c(l:List Int)(hl:l.length≤1000)(hs:SmallL l):Con Tryz.prog 77 [] [C1 (intsT l)] (Rv (.str (keyJ l))) []:=by
 refine J2 (c:=_) Tryz.func77 rfl rfl rfl (by decide) fun w M0 H Z=>?_
 repeat'(first|refine gc_ rfl ?_|(refine G1 ?_;refine G0 th rfl ?_)|(refine G9 mix rfl rfl ?_;refine G3 th rfl ?_)|(refine G5 mix rfl rfl ?_;refine GJ th rfl ?_)|refine G2 ?_|refine G4 ?_|refine G6 ?_ rfl rfl|((first|refine G8 rfl rfl ?_ ?_|refine GG rfl rfl rfl ?_ ?_|refine Q1 rfl ?_ ?_)<;>intro hb<;>(try simp only[hbL]at hb)<;>first|(exfalso;omega)|refine G0 th rfl ?_|refine G3 th rfl ?_|skip))
 refine J8 (fun k:Nat=>k≤l.length)
  (fun k=>[(3,.v (C1 (.str (keyJ (l.take k))))),(6,.v (C1 (intsT l))),(7,.v (C1 (.int .i64 (l.length:Int)))),(8,.v (C1 (.int .i64 (k:Int))))])
  (fun _=>[]) (fun k=>l.length - k) 0 (Nat.zero_le _)
  (fun a w h=>h.sub (by exact⟨⟨_,rfl,leJ_str rfl⟩,⟨_,rfl,.refl _⟩,⟨_,rfl,GY (by simp)⟩,⟨_,rfl,GY rfl⟩,trivial⟩) (by exact trivial) rfl rfl rfl) (fun k hk ih=>?_)
 by_cases hlt:k < l.length
 ·have hx:(l.map fun r=>[CT.int .i64 r])[k]? =some [.int .i64 l[k]]:=by simp[hlt]
  obtain⟨h0,h1⟩:=hs _ (List.getElem_mem hlt)
  have h2:=keyJ_size (l.take k)
  have h3:=itJ_size l[k]
  rw[List.length_take]at h2
  have hih:=ih (k+1) hlt (by omega)
  rw[List.take_succ_eq_append_getElem hlt,←keyJ_snoc]at hih
  repeat'(first|refine gc_ rfl ?_|(refine G1 ?_;refine G0 th rfl ?_)|(refine G9 mix rfl rfl ?_;refine G3 th rfl ?_)|(refine G5 mix rfl rfl ?_;refine GJ th rfl ?_)|refine G2 ?_|refine G4 ?_|refine G6 ?_ rfl rfl|((first|refine G8 rfl rfl ?_ ?_|refine GG rfl rfl rfl ?_ ?_|refine Q1 rfl ?_ ?_)<;>intro hb<;>(try simp only[hbL]at hb)<;>first|(exfalso;omega)|refine G0 th rfl ?_|refine G3 th rfl ?_|skip)|((first|refine K2 th rfl rfl rfl rfl rfl rfl rfl rfl rfl k _ rfl hx ?_|refine Q4 (itoaJ_i l[k] h0 h1) [] rfl rfl rfl rfl rfl rfl rfl rfl rfl rfl ?_);refine G0 th rfl ?_)|(refine s_cat rfl rfl rfl rfl rfl rfl (by first|omega|(simp only[ByteArray.size_append,show(ByteArray.mk #[32]).size=1 from rfl];omega)) ?_;refine G0 th rfl ?_)|(refine QW rfl rfl rfl rfl rfl rfl (by omega) ?_;refine G0 th rfl ?_))
  exact QK (by exact⟨⟨_,rfl,.refl _⟩,⟨_,rfl,.refl _⟩,⟨_,rfl,.refl _⟩,⟨_,rfl,GY (by omega)⟩,trivial⟩) (by exact trivial) rfl rfl rfl hih
 ·have hke:k=l.length:=by omega
  subst hke
  rw[List.take_length]
  repeat'(first|refine gc_ rfl ?_|(refine G1 ?_;refine G0 th rfl ?_)|(refine G9 mix rfl rfl ?_;refine G3 th rfl ?_)|(refine G5 mix rfl rfl ?_;refine GJ th rfl ?_)|refine G2 ?_|refine G4 ?_|refine G6 ?_ rfl rfl|((first|refine G8 rfl rfl ?_ ?_|refine GG rfl rfl rfl ?_ ?_|refine Q1 rfl ?_ ?_)<;>intro hb<;>(try simp only[hbL]at hb)<;>first|(exfalso;omega)|refine G0 th rfl ?_|refine G3 th rfl ?_|skip)|refine QQ th Tryz.func77 (.inr ⟨_,rfl⟩) rfl rfl rfl ?_ rfl)
  all_goals exact .refl _
end Go.Sy
set_option linter.unusedSimpArgs false
set_option linter.unusedVariables false
set_option linter.unusedSectionVars false
namespace Go.Sy
open Go.Proofs
set_option maxRecDepth 100000
attribute [local irreducible] SOps Goes DOps EOps FOps GOps
abbrev seerCs(p:Prt)(role:ByteArray)(v:Value):List SC:=[.c (.str p.name),.c (Q8 p.roles),.c (pointsC p.points),.c (.str role),.c (.val v),.mp (G7+1)]
abbrev rowsI(S:List (List Int)):List (List CT):=S.map fun l=>[intsT l]
abbrev keysM(S:List (List Int)):MO:=.mpo (entF strF (numM (S.map keyJ)))
def seerM(p:Prt)(role:ByteArray)(v:Value)(S:List (List Int)):MM:=[(G7,.box (seerCs p role v)),(G7+1,keysM S),(1,.pool 26 1 [(v,rowsI S)])]
theorem pntAt_get{p:Prt}{x:Int}(h:0≤x∧x < (p.points.length:Int)):(p.points.map Pnt.cs)[x.toNat]? =some (Q5 p x).cs:=by
 have hx:x.toNat < p.points.length:=by omega
 rw[List.getElem?_map,List.getElem?_eq_getElem hx]
 simp[Q5,hx]
set_option maxHeartbeats 4000000 in
theorem sin_c(p:Prt)(role:ByteArray)(v:Value)(S:List (List Int))(x:Int)(hx:0≤x∧x < (p.points.length:Int)):
 ConM Tryz.prog 109 (seerM p role v S) [.one (.ptr G7 0),C1 (.int .i64 x)] (fun _:Unit=>True) (fun _=>Rv (.bool (inP (Q5 p x) role))) (fun _=>seerM p role v S):=by
 have hxp:=pntAt_get hx
 obtain⟨q,hq⟩:∃q,q=Q5 p x:=⟨_,rfl⟩
 rw[←hq]at hxp⊢
 refine conM_of (c:=_) Tryz.func109 rfl rfl rfl (by decide) rfl fun w M0 H Z hd=>?_
 repeat'(first|refine gc_ rfl ?_|(refine G1 ?_;refine G0 th rfl ?_)|(refine G9 mix rfl rfl ?_;refine G3 th rfl ?_)|(refine G5 mix rfl rfl ?_;refine GJ th rfl ?_)|refine G2 ?_|refine G4 ?_|refine G6 ?_ rfl rfl|((first|refine G8 rfl rfl ?_ ?_|refine GG rfl rfl rfl ?_ ?_|refine Q1 rfl ?_ ?_)<;>intro hb<;>(try simp only[hbL]at hb)<;>first|(exfalso;omega)|refine G0 th rfl ?_|refine G3 th rfl ?_|skip)|(refine K2 th rfl rfl rfl rfl rfl rfl rfl rfl rfl x.toNat _ (by omega) hxp ?_;refine G0 th rfl ?_))
 all_goals exact JW (hd:=hd) th Tryz.func109 () (.inr ⟨_,rfl⟩) rfl (by first|(rw[inP,decide_eq_true (show q.from_=role from hb)];rfl)|(rw[inP,decide_eq_false (show ¬q.from_=role from hb)];rfl)) rfl rfl ⟨rfl,rfl,rfl,trivial⟩ rfl rfl rfl trivial
set_option maxHeartbeats 4000000 in
theorem side_c(p:Prt)(role:ByteArray)(v:Value)(S:List (List Int))(x:Int)(hx:0≤x∧x < (p.points.length:Int)):
 ConM Tryz.prog 78 (seerM p role v S) [.one (.ptr G7 0),C1 (.int .i64 x)] (fun _:Unit=>True)
  (fun _=>.tup [C1 (.bool (J4 p role x).1),C1 (.str (J4 p role x).2)]) (fun _=>seerM p role v S):=by
 have hxp:=pntAt_get hx
 unfold J4
 obtain⟨q,hq⟩:∃q,q=Q5 p x:=⟨_,rfl⟩
 rw[←hq]at hxp⊢
 by_cases hfr:q.from_=role
 ·rw[show sideL role q=(true,q.to) by unfold sideL;rw[if_pos hfr]]
  refine conM_of (c:=_) Tryz.func78 rfl rfl rfl (by decide) rfl fun w M0 H Z hd=>?_
  repeat'(first|refine gc_ rfl ?_|(refine G1 ?_;refine G0 th rfl ?_)|(refine G9 mix rfl rfl ?_;refine G3 th rfl ?_)|(refine G5 mix rfl rfl ?_;refine GJ th rfl ?_)|refine G2 ?_|refine G4 ?_|refine G6 ?_ rfl rfl|((first|refine G8 rfl rfl ?_ ?_|refine GG rfl rfl rfl ?_ ?_|refine Q1 rfl ?_ ?_)<;>intro hb<;>(try simp only[hbL]at hb)<;>first|(exfalso;omega)|refine G0 th rfl ?_|refine G3 th rfl ?_|skip)|(refine K2 th rfl rfl rfl rfl rfl rfl rfl rfl rfl x.toNat _ (by omega) hxp ?_;refine G0 th rfl ?_))
  all_goals first|(exfalso;contradiction)|exact JW (hd:=hd) th Tryz.func78 () (.inr ⟨_,rfl⟩) rfl rfl rfl rfl ⟨rfl,rfl,rfl,trivial⟩ rfl rfl rfl trivial
 ·rw[show sideL role q=(false,q.from_) by unfold sideL;rw[if_neg hfr]]
  refine conM_of (c:=_) Tryz.func78 rfl rfl rfl (by decide) rfl fun w M0 H Z hd=>?_
  repeat'(first|refine gc_ rfl ?_|(refine G1 ?_;refine G0 th rfl ?_)|(refine G9 mix rfl rfl ?_;refine G3 th rfl ?_)|(refine G5 mix rfl rfl ?_;refine GJ th rfl ?_)|refine G2 ?_|refine G4 ?_|refine G6 ?_ rfl rfl|((first|refine G8 rfl rfl ?_ ?_|refine GG rfl rfl rfl ?_ ?_|refine Q1 rfl ?_ ?_)<;>intro hb<;>(try simp only[hbL]at hb)<;>first|(exfalso;omega)|refine G0 th rfl ?_|refine G3 th rfl ?_|skip)|(refine K2 th rfl rfl rfl rfl rfl rfl rfl rfl rfl x.toNat _ (by omega) hxp ?_;refine G0 th rfl ?_))
  all_goals first|(exfalso;contradiction)|exact JW (hd:=hd) th Tryz.func78 () (.inr ⟨_,rfl⟩) rfl rfl rfl rfl ⟨rfl,rfl,rfl,trivial⟩ rfl rfl rfl trivial
def labsA(l:List Arm):List ByteArray:=l.foldl (fun out a=>putN out a.label) []
theorem labsA_snoc{l:List Arm}{i:Nat}(h:i < l.length):labsA (l.take (i+1))=putN (labsA (l.take i)) l[i].label:=by
 unfold labsA
 rw[List.take_succ_eq_append_getElem h,List.foldl_append];rfl
theorem labsA_len(l:List Arm):(labsA l).length≤l.length:=by
 have h:∀(l:List Arm) (out:List ByteArray),(l.foldl (fun out a=>putN out a.label) out).length≤out.length+l.length:=by
  intro l
  induction l with
  |nil=>intro out;simp
  |cons a l ih=>intro out;have h1:=ih (putN out a.label);have h2:=putN_len out a.label;simp only[List.foldl_cons,List.length_cons];omega
 have:=h l []
 unfold labsA
 simpa using this
set_option maxHeartbeats 4000000 in
theorem labels_c'(x:Pnt)(hl:x.arms.length≤6):Con Tryz.prog 79 [] [Ag x.cs] (Rv (Q8 (labsL x))) []:=by
 refine J2 (c:=_) Tryz.func79 rfl rfl rfl (by decide) fun w M0 H Z=>?_
 repeat'(first|refine gc_ rfl ?_|(refine G1 ?_;refine G0 th rfl ?_)|(refine G9 mix rfl rfl ?_;refine G3 th rfl ?_)|(refine G5 mix rfl rfl ?_;refine GJ th rfl ?_)|refine G2 ?_|refine G4 ?_|refine G6 ?_ rfl rfl|((first|refine G8 rfl rfl ?_ ?_|refine GG rfl rfl rfl ?_ ?_|refine Q1 rfl ?_ ?_)<;>intro hb<;>(try simp only[hbL]at hb)<;>first|(exfalso;omega)|refine G0 th rfl ?_|refine G3 th rfl ?_|skip))
 refine J8 (fun k:Nat=>k≤x.arms.length)
  (fun k=>[(1,.v (.one (.ptr 1 0))),(3,.v (C1 (Q8 (labsA (x.arms.take k))))),(7,.v (C1 (armsC x.arms))),(8,.v (C1 (.int .i64 (x.arms.length:Int)))),(9,.v (C1 (.int .i64 (k:Int))))])
  (fun _=>[(1,.box (x.cs.map SC.c))])
  (fun k=>x.arms.length - k) 0 (Nat.zero_le _)
  (fun a w h=>h.sub (by exact⟨⟨_,rfl,.refl _⟩,⟨_,rfl,.v (.one (.c (.nil 1)))⟩,⟨_,rfl,.refl _⟩,⟨_,rfl,GY (by simp)⟩,⟨_,rfl,GY rfl⟩,trivial⟩) (by exact⟨⟨_,rfl,.refl _⟩,trivial⟩) rfl rfl rfl) (fun k hk ih=>?_)
 by_cases hlt:k < x.arms.length
 ·have hx:(x.arms.map Arm.cs)[k]? =some (x.arms[k]).cs:=by simp[hlt]
  have hpl:=labsA_len (x.arms.take k)
  rw[List.length_take]at hpl
  have hput:=put_c (labsA (x.arms.take k)) x.arms[k].label (by omega)
  have hih:=ih (k+1) hlt (by omega)
  rw[labsA_snoc hlt]at hih
  repeat'(first|refine gc_ rfl ?_|(refine G1 ?_;refine G0 th rfl ?_)|(refine G9 mix rfl rfl ?_;refine G3 th rfl ?_)|(refine G5 mix rfl rfl ?_;refine GJ th rfl ?_)|refine G2 ?_|refine G4 ?_|refine G6 ?_ rfl rfl|((first|refine G8 rfl rfl ?_ ?_|refine GG rfl rfl rfl ?_ ?_|refine Q1 rfl ?_ ?_)<;>intro hb<;>(try simp only[hbL]at hb)<;>first|(exfalso;omega)|refine G0 th rfl ?_|refine G3 th rfl ?_|skip)|((first|refine K2 th rfl rfl rfl rfl rfl rfl rfl rfl rfl k _ rfl hx ?_|refine Q4 hput [] rfl rfl rfl rfl rfl rfl rfl rfl rfl rfl ?_|refine QW rfl rfl rfl rfl rfl rfl (by omega) ?_);refine G0 th rfl ?_))
  exact QK (by exact⟨⟨_,rfl,.refl _⟩,⟨_,rfl,.refl _⟩,⟨_,rfl,.refl _⟩,⟨_,rfl,.refl _⟩,⟨_,rfl,GY (by omega)⟩,trivial⟩) (by exact⟨⟨_,rfl,.refl _⟩,trivial⟩) rfl rfl rfl hih
 ·rw[show labsL x=labsA (x.arms.take k) by rw[show x.arms.take k=x.arms from List.take_of_length_le (by omega)];rfl]
  repeat'(first|refine gc_ rfl ?_|(refine G1 ?_;refine G0 th rfl ?_)|(refine G9 mix rfl rfl ?_;refine G3 th rfl ?_)|(refine G5 mix rfl rfl ?_;refine GJ th rfl ?_)|refine G2 ?_|refine G4 ?_|refine G6 ?_ rfl rfl|((first|refine G8 rfl rfl ?_ ?_|refine GG rfl rfl rfl ?_ ?_|refine Q1 rfl ?_ ?_)<;>intro hb<;>(try simp only[hbL]at hb)<;>first|(exfalso;omega)|refine G0 th rfl ?_|refine G3 th rfl ?_|skip)|refine QQ th Tryz.func79 (.inr ⟨_,rfl⟩) rfl rfl rfl ?_ rfl)
  exact .refl _
section
variable {C:Ctx} {n:Nat} {tm tm0:TM} {mm:MM} {L l:List Oper} {T:TM→Prop} {o:Oper} {d:Nat} {p q:Operand} {ty:TypeId}
theorem d_pidx{Θ:Tab}(hΘ:QJ C.P Θ){r:Nat}{qs:PQ}{v:Value}{sz:Nat}{xs:List (List CT)}{kd:IntKind}{m:Int}{e e':Nat}{z bts:Nat}{ag:Bool}{zr:Option (List CT)}{ei:TyI}
 (ho:o.op=.indexAddr ty p q)(ht:GW Θ ty=some ⟨z,bts,ag,zr,.slice e⟩)(hei:GW Θ e=some ei)(hx:Q0 (Q9 (GZ L o) tm) p=some (.c (.val v)))(hi:J1 mm r=some (.pool e' sz qs))(hsz:Nat.beq ei.size sz=true)
 (hy:Q0 (Q9 (GZ L o) tm) q=some (.c (.int kd m)))(hd:o.dst=some d)(hn:Nat.blt d n=true)(hg:QG L (Q9 (GZ L o) tm) o=some true)
 (c:Nat)(hk:qs[c]? =some (v,xs))(j:Nat)(hm:m=(j:Int))(hj:j < xs.length)(g:DOps C n mm L tm0 l ((d,.v (.one (.c (.val (ptrV v (j * sz))))))::QY tm d) T):DOps C n mm L tm0 (o::l) tm T:=
 d_step (op_pidx hΘ ho ht hei hsz hx hi hk hy hm hj hd hn) hg g
theorem d_pload{Θ:Tab}(hΘ:QJ C.P Θ){ti:TyI}{r j e sz:Nat}{qs:PQ}{v:Value}{xs:List (List CT)}{cs:List CT}{s:SV}
 (ho:o.op=.load ty p)(ht:GW Θ ty=some ti)(hx:Q0 (Q9 (GZ L o) tm) p=some (.c (.val (ptrV v (j * sz)))))(hi:J1 mm r=some (.pool e sz qs))(hs:Nat.beq ti.size sz=true)(hd:o.dst=some d)(hn:Nat.blt d n=true)(hg:QG L (Q9 (GZ L o) tm) o=some true)
 (c:Nat)(hk:qs[c]? =some (v,xs))(hj:xs[j]? =some cs)(hv:mkV SC.c ti.agg cs=some s)
 (g:DOps C n mm L tm0 l ((d,.v s)::QY tm d) T):DOps C n mm L tm0 (o::l) tm T:=
 d_step (op_pload hΘ ho ht hx hi hk hj hs hv hd hn) hg g
end
def metR(n:Nat)(l:List Int):List (List CT):=(List.range n).map fun i:Nat=>[CT.bool (decide ((i:Int)∈l))]
theorem metR_len(n:Nat)(l:List Int):(metR n l).length=n:=by simp[metR]
theorem metR_get{n:Nat}{l:List Int}{a:Int}(h:0≤a∧a < (n:Int)):(metR n l)[a.toNat]? =some [.bool (memB l a)]:=by
 unfold metR
 rw[List.getElem?_map,List.getElem?_range (by omega)]
 simp only[Option.map_some,memB]
 rw[show((a.toNat:Nat):Int)=a by omega]
theorem metR_set{n:Nat}{l:List Int}{a:Int}(h:0≤a∧a < (n:Int)):(metR n l).set a.toNat [.bool true]=metR n (l++[a]):=by
 apply List.ext_getElem?
 intro i
 rw[List.getElem?_set,metR_len]
 by_cases hi:a.toNat=i
 ·subst hi
  rw[if_pos rfl,if_pos (by omega),metR_get h]
  simp[memB]
 ·rw[if_neg hi]
  unfold metR
  rw[List.getElem?_map,List.getElem?_map]
  cases hr:(List.range n)[i]? with
  |none=>rfl
  |some j=>
   have hj:=List.getElem?_eq_some_iff.1 hr
   obtain⟨h1,h2⟩:=hj
   rw[List.getElem_range]at h2
   subst h2
   have:((i:Nat):Int)≠a:=by omega
   simp[this]
def sp1M(n:Nat)(l:List Int)(vm vo:Value):MM:=
 [(G7,.box [.c (.val vm)]),(G7+1,.box [.c (.val vo)]),(1,.pool 4 1 [(vm,metR n l)]),(2,.pool 3 1 [(vo,rowI' l)])]
set_option maxHeartbeats 8000000 in
theorem sp1_c(n:Nat)(l:List Int)(vm vo:Value)(a:Int)(hl:l.length≤24)(ha:0≤a∧a < (n:Int)):
 ConM Tryz.prog 108 (sp1M n l vm vo) [C1 (.int .i64 a),.one (.ptr G7 0),.one (.ptr (G7+1) 0)]
  (fun _:Value=>True) (fun _=>.tup []) (fun v'=>sp1M n (meetL n l a) vm v'):=by
 have hget:=metR_get (l:=l) ha
 have hset:=metR_set (l:=l) ha
 have hal:a.toNat < (metR n l).length:=by rw[metR_len];omega
 cases hm:memB l a with
 |false=>
  have hnm:a∉l:=notMem_of hm
  rw[hm]at hget
  rw[show meetL n l a=l++[a]from if_pos ⟨ha.1,ha.2,hnm⟩]
  have hrow:rowI' l++[[CT.int .i64 a]]=rowI' (l++[a]):=by simp
  refine conM_of (c:=_) Tryz.func108 rfl rfl rfl (by decide) rfl fun w M0 H Z hd=>?_
  repeat'(first|refine gc_ rfl ?_|(refine G1 ?_;refine G0 th rfl ?_)|(refine G9 mix rfl rfl ?_;refine G3 th rfl ?_)|(refine G5 mix rfl rfl ?_;refine GJ th rfl ?_)|refine G2 ?_|refine G4 ?_|refine G6 ?_ rfl rfl|((first|refine G8 rfl rfl ?_ ?_|refine GG rfl rfl rfl ?_ ?_|refine Q1 rfl ?_ ?_)<;>intro hb<;>(try simp only[hbL]at hb)<;>first|(exfalso;omega)|refine G0 th rfl ?_|refine G3 th rfl ?_|skip)|((first|refine s_pidx th (r:=1) rfl rfl rfl rfl rfl rfl rfl rfl rfl rfl 0 rfl a.toNat (by omega) hal ?_|refine s_pload th (r:=1) rfl rfl rfl rfl rfl rfl rfl rfl 0 rfl hget rfl ?_|refine s_pstore th (r:=1) rfl rfl rfl rfl rfl rfl rfl rfl rfl rfl rfl rfl rfl 0 rfl hal ?_);refine G0 th rfl ?_)|(refine s_freeze 14 rfl rfl ?_;refine s_pappend th (i:=2) rfl rfl rfl rfl rfl rfl rfl rfl rfl rfl rfl rfl rfl rfl 0 rfl (by constructor<;>simp<;>omega) (fun v'=>?_);refine G0 th rfl ?_))
  simp only[List.set_cons_zero]
  rw[hrow,hset]
  exact JW (hd:=hd) th Tryz.func108 v' (.inl rfl) rfl rfl rfl rfl ⟨rfl,rfl,rfl,rfl,trivial⟩ rfl rfl rfl trivial
 |true=>
  rw[hm]at hget
  have hin:a∈l:=by simpa[memB]using hm
  rw[show meetL n l a=l from if_neg fun h=>h.2.2 hin]
  refine conM_of (c:=_) Tryz.func108 rfl rfl rfl (by decide) rfl fun w M0 H Z hd=>?_
  repeat'(first|refine gc_ rfl ?_|(refine G1 ?_;refine G0 th rfl ?_)|(refine G9 mix rfl rfl ?_;refine G3 th rfl ?_)|(refine G5 mix rfl rfl ?_;refine GJ th rfl ?_)|refine G2 ?_|refine G4 ?_|refine G6 ?_ rfl rfl|((first|refine G8 rfl rfl ?_ ?_|refine GG rfl rfl rfl ?_ ?_|refine Q1 rfl ?_ ?_)<;>intro hb<;>(try simp only[hbL]at hb)<;>first|(exfalso;omega)|refine G0 th rfl ?_|refine G3 th rfl ?_|skip)|((first|refine s_pidx th (r:=1) rfl rfl rfl rfl rfl rfl rfl rfl rfl rfl 0 rfl a.toNat (by omega) hal ?_|refine s_pload th (r:=1) rfl rfl rfl rfl rfl rfl rfl rfl 0 rfl hget rfl ?_);refine G0 th rfl ?_))
  all_goals exact JW (hd:=hd) th Tryz.func108 vo (.inl rfl) rfl rfl rfl rfl ⟨rfl,rfl,rfl,rfl,trivial⟩ rfl rfl rfl trivial
theorem metR_nil(n:Nat):List.replicate n [CT.bool false]=metR n []:=by
 apply List.ext_getElem?
 intro i
 unfold metR
 rw[List.getElem?_replicate,List.getElem?_map]
 by_cases hi:i < n
 ·rw[if_pos hi,List.getElem?_range hi];simp
 ·rw[if_neg hi,List.getElem?_eq_none (by simpa using hi)];rfl
def spM(p:Prt)(role:ByteArray)(v:Value)(S:List (List Int))(l:List Int)(vm vo:Value):MM:=
 [(5,.box [.c (.val vo)]),(6,.box [.c (.val vm)]),(19,.pool 4 1 [(vm,metR p.points.length l)]),(150,.pool 3 1 [(vo,rowI' l)]),
  (G7,.box (seerCs p role v)),(G7+1,keysM S),(1,.pool 26 1 [(v,rowsI S)])]
set_option maxHeartbeats 16000000 in
theorem span_c(p:Prt)(hv:prtB p=true)(role:ByteArray)(v:Value)(S:List (List Int))(set:List Int)(hset:∀x∈set,0≤x∧x < (p.points.length:Int))(hsl:set.length≤1000):
 ConM Tryz.prog 74 (seerM p role v S) [.one (.ptr G7 0),C1 (intsT set)] (fun _:Unit=>True) (fun _=>Rv (intsT (waitL p role set))) (fun _=>seerM p role v S):=by
 have hpin:=prt_in hv
 have hpl:=prt_len hv
 have hgl:p.g.length=p.points.length:=by simp[Prt.g]
 refine conM_of (c:=_) Tryz.func74 rfl rfl rfl (by decide) rfl fun w M0 H Z hd=>?_
 repeat'(first|refine gc_ rfl ?_|(refine G1 ?_;refine G0 th rfl ?_)|(refine G9 mix rfl rfl ?_;refine G3 th rfl ?_)|(refine G5 mix rfl rfl ?_;refine GJ th rfl ?_)|refine G2 ?_|refine G4 ?_|refine G6 ?_ rfl rfl|((first|refine G8 rfl rfl ?_ ?_|refine GG rfl rfl rfl ?_ ?_|refine Q1 rfl ?_ ?_)<;>intro hb<;>(try simp only[hbL]at hb)<;>first|(exfalso;omega)|refine G0 th rfl ?_|refine G3 th rfl ?_|skip)|(refine s_makeO th rfl rfl rfl rfl rfl rfl rfl rfl rfl rfl rfl p.points.length (by simp) (by simp) (by constructor<;>(try simp)<;>omega) ?_;refine G0 th rfl ?_))
 refine g_toPool 19 rfl rfl fun vm=>?_
 rw[metR_nil]
 refine g_newPool 150 3 1 rfl rfl ?_
 refine g_nilPool 150 rfl rfl rfl rfl ?_
 refine g_nilVal 5 0 rfl rfl ?_
 refine g_loop2 (fun(k:Nat) (s:List Int×Value)=>k≤set.length∧startL p.points.length s.1 (set.drop k)=startL p.points.length [] set∧Reached p.g s.1)
  (fun k _=>[(0,.v (.one (.ptr G7 0))),(5,.v (.one (.ptr 5 0))),(7,.v (.one (.clo 108 [6,5]))),(21,.v (C1 (intsT set))),(22,.v (C1 (.int .i64 (set.length:Int)))),(23,.v (C1 (.int .i64 (k:Int))))])
  (fun _ s=>spM p role v S s.1 vm s.2)
  (fun k _=>set.length - k) 0 ([],.slice none 0 0) ⟨Nat.zero_le _,rfl,⟨List.nodup_nil,fun x h=>by cases h⟩⟩
  (fun a w h=>h.sub (by exact⟨⟨_,rfl,.refl _⟩,⟨_,rfl,.refl _⟩,⟨_,rfl,.refl _⟩,⟨_,rfl,.refl _⟩,⟨_,rfl,GY (by simp)⟩,⟨_,rfl,GY rfl⟩,trivial⟩) (by(repeat refine⟨⟨_,rfl,.refl _⟩,?_⟩);trivial) rfl rfl rfl) (fun k s hk ih=>?_)
 obtain⟨wait,vo⟩:=s
 obtain⟨hk,hst,hre⟩:=hk
 simp only at hst hre⊢
 have hwl:=hre.len
 by_cases hlt:k < set.length
 ·have hx:(set.map fun r=>[CT.int .i64 r])[k]? =some [.int .i64 set[k]]:=by simp[hlt]
  have hmeet:=sp1_c p.points.length wait vm vo set[k] (by omega) (hset _ (List.getElem_mem hlt))
  repeat'(first|refine gc_ rfl ?_|(refine G1 ?_;refine G0 th rfl ?_)|(refine G9 mix rfl rfl ?_;refine G3 th rfl ?_)|(refine G5 mix rfl rfl ?_;refine GJ th rfl ?_)|refine G2 ?_|refine G4 ?_|refine G6 ?_ rfl rfl|((first|refine G8 rfl rfl ?_ ?_|refine GG rfl rfl rfl ?_ ?_|refine Q1 rfl ?_ ?_)<;>intro hb<;>(try simp only[hbL]at hb)<;>first|(exfalso;omega)|refine G0 th rfl ?_|refine G3 th rfl ?_|skip)|((first|refine K2 th rfl rfl rfl rfl rfl rfl rfl rfl rfl k _ rfl hx ?_|refine s_cloM hmeet [(G7,6),(G7+1,5),(1,19),(2,150)] rfl rfl rfl rfl rfl rfl rfl ⟨rfl,rfl,rfl,rfl,trivial⟩ ⟨rfl,rfl,rfl,rfl,rfl⟩ (fun _=>⟨rfl,rfl,rfl,rfl,rfl,rfl,rfl⟩) (fun _=>rfl) (fun _=>rfl) rfl rfl rfl (fun v' _=>?_)|refine QW rfl rfl rfl rfl rfl rfl (by omega) ?_);refine G0 th rfl ?_))
  have hih:=ih (k+1) (meetL p.points.length wait set[k],v') ⟨hlt,by rw[←hst,List.drop_eq_getElem_cons hlt];rfl,by have:=startL_ok [set[k]] hre;rw[hgl]at this;exact this⟩ (by omega)
  exact QK (by exact⟨⟨_,rfl,.refl _⟩,⟨_,rfl,.refl _⟩,⟨_,rfl,.refl _⟩,⟨_,rfl,.refl _⟩,⟨_,rfl,.refl _⟩,⟨_,rfl,GY (by omega)⟩,trivial⟩) (by(repeat refine⟨⟨_,rfl,.refl _⟩,?_⟩);trivial) rfl rfl rfl hih
 have hke:k=set.length:=by omega
 rw[hke,List.drop_length]at hst
 have hw0:waitL p role set=bfsH (passA p role) (p.points.length+1 - 0) 0 wait:=by unfold waitL;rw[←hst];rfl
 repeat'(first|refine gc_ rfl ?_|(refine G1 ?_;refine G0 th rfl ?_)|(refine G9 mix rfl rfl ?_;refine G3 th rfl ?_)|(refine G5 mix rfl rfl ?_;refine GJ th rfl ?_)|refine G2 ?_|refine G4 ?_|refine G6 ?_ rfl rfl|((first|refine G8 rfl rfl ?_ ?_|refine GG rfl rfl rfl ?_ ?_|refine Q1 rfl ?_ ?_)<;>intro hb<;>(try simp only[hbL]at hb)<;>first|(exfalso;omega)|refine G0 th rfl ?_|refine G3 th rfl ?_|skip))
 clear hst ih hk
 refine g_loop2 (fun(k:Nat) (s:List Int×Value)=>k≤s.1.length∧waitL p role set=bfsH (passA p role) (p.points.length+1 - k) k s.1∧Reached p.g s.1)
  (fun k _=>[(0,.v (.one (.ptr G7 0))),(5,.v (.one (.ptr 5 0))),(7,.v (.one (.clo 108 [6,5]))),(10,.v (C1 (.int .i64 (k:Int))))])
  (fun k s=>spM p role v S s.1 vm s.2)
  (fun k _=>p.points.length - k) 0 (wait,vo) ⟨Nat.zero_le _,hw0,hre⟩
  (fun a w h=>h.sub (by exact⟨⟨_,rfl,.refl _⟩,⟨_,rfl,.refl _⟩,⟨_,rfl,.refl _⟩,⟨_,rfl,GY rfl⟩,trivial⟩) (by(repeat refine⟨⟨_,rfl,.refl _⟩,?_⟩);trivial) rfl rfl rfl) (fun k s hk ih=>?_)
 clear hw0 hre hwl wait vo
 obtain⟨wait,vo⟩:=s
 obtain⟨hk,hst,hre⟩:=hk
 simp only at hk hst hre⊢
 have hwl:=hre.len
 by_cases hlt:k < wait.length
 ·have hxr:=hre.range _ (List.getElem_mem hlt)
  rw[hgl]at hxr
  have hxw:(rowI' wait)[k]? =some [.int .i64 wait[k]]:=by simp[hlt]
  have hxp:=pntAt_get hxr
  have hin:=sin_c p role v S wait[k] hxr
  obtain⟨x,hxx⟩:∃x,x=Q5 p wait[k]:=⟨_,rfl⟩
  have hx6:x.arms.length≤6:=by
   rcases pntAt_arms hv wait[k]with h1|h1
   ·rw[←hxx]at h1;rw[h1];simp
   ·rw[←hxx]at h1;exact(arms_all h1).1.2
  have hnx:=pass_in hpin role wait[k]
  rw[show p.points.length+1 - k=(p.points.length - k)+1 by omega,bfsH_next hlt]at hst
  rw[←hxx]at hxp hin
  repeat'(first|refine gc_ rfl ?_|(refine G1 ?_;refine G0 th rfl ?_)|(refine G9 mix rfl rfl ?_;refine G3 th rfl ?_)|(refine G5 mix rfl rfl ?_;refine GJ th rfl ?_)|refine G2 ?_|refine G4 ?_|refine G6 ?_ rfl rfl|((first|refine G8 rfl rfl ?_ ?_|refine GG rfl rfl rfl ?_ ?_|refine Q1 rfl ?_ ?_)<;>intro hb<;>(try simp only[hbL]at hb)<;>first|(exfalso;omega)|refine G0 th rfl ?_|refine G3 th rfl ?_|skip)|(refine s_plen th 150 0 rfl rfl rfl rfl rfl rfl rfl rfl (wait.length:Int) (by simp) ?_;refine G0 th rfl ?_)|((first|refine d_pidx th (r:=150) rfl rfl rfl rfl rfl rfl rfl rfl rfl rfl 0 rfl k rfl (by simpa using hlt) ?_|refine d_pload th (r:=150) rfl rfl rfl rfl rfl rfl rfl rfl 0 rfl hxw rfl ?_|refine d_idx th rfl rfl rfl rfl rfl rfl rfl rfl rfl wait[k].toNat _ (by omega) hxp ?_);refine G3 th rfl ?_)|((first|refine s_pidx th (r:=150) rfl rfl rfl rfl rfl rfl rfl rfl rfl rfl 0 rfl k rfl (by simpa using hlt) ?_|refine s_pload th (r:=150) rfl rfl rfl rfl rfl rfl rfl rfl 0 rfl hxw rfl ?_|refine s_callM hin [] rfl rfl rfl rfl ⟨rfl,rfl,rfl,trivial⟩ ⟨rfl,rfl,rfl,rfl,rfl⟩ (fun _=>⟨rfl,rfl,rfl,rfl,rfl,rfl,rfl⟩) (fun _=>rfl) (fun _=>rfl) rfl rfl rfl (fun _ _=>?_)|refine QW rfl rfl rfl rfl rfl rfl (by omega) ?_);refine G0 th rfl ?_))
  ·have hih:=ih (k+1) (wait,vo) ⟨hlt,by
    rw[hst,passA,←hxx,if_pos (by assumption),show p.points.length+1 - (k+1)=p.points.length - k by omega];rfl,hre⟩ (by omega)
   exact QK (by exact⟨⟨_,rfl,.refl _⟩,⟨_,rfl,.refl _⟩,⟨_,rfl,.refl _⟩,⟨_,rfl,GY (by omega)⟩,trivial⟩) (by(repeat refine⟨⟨_,rfl,.refl _⟩,?_⟩);trivial) rfl rfl rfl hih
  have hinf:¬inP x role=true:=by rw[hb];simp
  rw[passA,←hxx,if_neg hinf]at hst hnx
  refine g_loop2 (fun(m:Nat) (s:List Int×Value)=>m≤x.arms.length∧s.1=bfsIn wait (x.arms.take m)∧Reached p.g s.1)
   (fun m _=>[(0,.v (.one (.ptr G7 0))),(5,.v (.one (.ptr 5 0))),(7,.v (.one (.clo 108 [6,5]))),(10,.v (C1 (.int .i64 (k:Int)))),(54,.v (C1 (armsC x.arms))),(55,.v (C1 (.int .i64 (x.arms.length:Int)))),(56,.v (C1 (.int .i64 (m:Int))))])
   (fun _ s=>spM p role v S s.1 vm s.2)
   (fun m _=>x.arms.length - m) 0 (wait,vo) ⟨Nat.zero_le _,rfl,hre⟩
   (fun a w h=>h.sub (by exact⟨⟨_,rfl,.refl _⟩,⟨_,rfl,.refl _⟩,⟨_,rfl,.refl _⟩,⟨_,rfl,.refl _⟩,⟨_,rfl,.refl _⟩,⟨_,rfl,GY (by simp)⟩,⟨_,rfl,GY rfl⟩,trivial⟩) (by(repeat refine⟨⟨_,rfl,.refl _⟩,?_⟩);trivial) rfl rfl rfl) (fun m s hm ih2=>?_)
  obtain⟨w',v1⟩:=s
  obtain⟨hm,hw',hre'⟩:=hm
  simp only at hw' hre'⊢
  have hwl':=hre'.len
  by_cases hmt:m < x.arms.length
  ·have hxa:(x.arms.map Arm.cs)[m]? =some (x.arms[m]).cs:=by simp[hmt]
   have hrg:=hnx _ (List.getElem_mem hmt)
   rw[hgl]at hrg
   have hmeet:=sp1_c p.points.length w' vm v1 (x.arms[m]).next (by omega) hrg
   have hstep:meetL p.points.length w' (x.arms[m]).next=bfsIn wait (x.arms.take (m+1)):=by
    rw[List.take_succ_eq_append_getElem hmt,bfsIn_append,←hw',bfsIn_one hrg];rfl
   repeat'(first|refine gc_ rfl ?_|(refine G1 ?_;refine G0 th rfl ?_)|(refine G9 mix rfl rfl ?_;refine G3 th rfl ?_)|(refine G5 mix rfl rfl ?_;refine GJ th rfl ?_)|refine G2 ?_|refine G4 ?_|refine G6 ?_ rfl rfl|((first|refine G8 rfl rfl ?_ ?_|refine GG rfl rfl rfl ?_ ?_|refine Q1 rfl ?_ ?_)<;>intro hb<;>(try simp only[hbL]at hb)<;>first|(exfalso;omega)|refine G0 th rfl ?_|refine G3 th rfl ?_|skip)|((first|refine K2 th rfl rfl rfl rfl rfl rfl rfl rfl rfl m _ rfl hxa ?_|refine s_cloM hmeet [(G7,6),(G7+1,5),(1,19),(2,150)] rfl rfl rfl rfl rfl rfl rfl ⟨rfl,rfl,rfl,rfl,trivial⟩ ⟨rfl,rfl,rfl,rfl,rfl⟩ (fun _=>⟨rfl,rfl,rfl,rfl,rfl,rfl,rfl⟩) (fun _=>rfl) (fun _=>rfl) rfl rfl rfl (fun v' _=>?_)|refine QW rfl rfl rfl rfl rfl rfl (by omega) ?_);refine G0 th rfl ?_))
   have hih2:=ih2 (m+1) (meetL p.points.length w' (x.arms[m]).next,v') ⟨hmt,hstep,by have:=startL_ok [(x.arms[m]).next] hre';rw[hgl]at this;exact this⟩ (by omega)
   exact QK (by exact⟨⟨_,rfl,.refl _⟩,⟨_,rfl,.refl _⟩,⟨_,rfl,.refl _⟩,⟨_,rfl,.refl _⟩,⟨_,rfl,.refl _⟩,⟨_,rfl,.refl _⟩,⟨_,rfl,GY (by omega)⟩,trivial⟩) (by(repeat refine⟨⟨_,rfl,.refl _⟩,?_⟩);trivial) rfl rfl rfl hih2
  ·have hme:x.arms.take m=x.arms:=List.take_of_length_le (by omega)
   rw[hme]at hw'
   obtain⟨r,hr⟩:=bfsIn_app x.arms wait
   rw[←hw']at hst hr
   have hih:=ih (k+1) (w',v1) ⟨by show k+1≤w'.length;rw[hr,List.length_append];omega,by rw[hst,show p.points.length+1 - (k+1)=p.points.length - k by omega],hre'⟩ (by omega)
   repeat'(first|refine gc_ rfl ?_|(refine G1 ?_;refine G0 th rfl ?_)|(refine G9 mix rfl rfl ?_;refine G3 th rfl ?_)|(refine G5 mix rfl rfl ?_;refine GJ th rfl ?_)|refine G2 ?_|refine G4 ?_|refine G6 ?_ rfl rfl|((first|refine G8 rfl rfl ?_ ?_|refine GG rfl rfl rfl ?_ ?_|refine Q1 rfl ?_ ?_)<;>intro hb<;>(try simp only[hbL]at hb)<;>first|(exfalso;omega)|refine G0 th rfl ?_|refine G3 th rfl ?_|skip)|(refine QW rfl rfl rfl rfl rfl rfl (by omega) ?_;refine G0 th rfl ?_))
   exact QK (by exact⟨⟨_,rfl,.refl _⟩,⟨_,rfl,.refl _⟩,⟨_,rfl,.refl _⟩,⟨_,rfl,GY (by omega)⟩,trivial⟩) (by(repeat refine⟨⟨_,rfl,.refl _⟩,?_⟩);trivial) rfl rfl rfl hih
 ·have hke2:k=wait.length:=by omega
  rw[show p.points.length+1 - k=(p.points.length - k)+1 by omega,hke2,bfsH_end]at hst
  repeat'(first|refine gc_ rfl ?_|(refine G1 ?_;refine G0 th rfl ?_)|(refine G9 mix rfl rfl ?_;refine G3 th rfl ?_)|(refine G5 mix rfl rfl ?_;refine GJ th rfl ?_)|refine G2 ?_|refine G4 ?_|refine G6 ?_ rfl rfl|((first|refine G8 rfl rfl ?_ ?_|refine GG rfl rfl rfl ?_ ?_|refine Q1 rfl ?_ ?_)<;>intro hb<;>(try simp only[hbL]at hb)<;>first|(exfalso;omega)|refine G0 th rfl ?_|refine G3 th rfl ?_|skip)|(refine s_plen th 150 0 rfl rfl rfl rfl rfl rfl rfl rfl (wait.length:Int) (by simp) ?_;refine G0 th rfl ?_))
  refine g_freezeT 150 4 rfl rfl rfl rfl rfl ?_
  rw[hst]
  exact JW (hd:=hd) th Tryz.func74 () (.inr ⟨_,rfl⟩) rfl rfl rfl rfl ⟨rfl,rfl,rfl,trivial⟩ rfl rfl rfl trivial
section
variable {C:Ctx} {n:Nat} {tm tm0:TM} {mm:MM} {L l:List Oper} {T:TM→Prop} {o:Oper} {d:Nat} {x:Operand}
theorem d_plen{Θ:Tab}(hΘ:QJ C.P Θ){t:TypeId}{z bts e:Nat}{ag:Bool}{zr:Option (List CT)}{e' sz:Nat}{qs:PQ}{v:Value}{xs:List (List CT)}(i c:Nat)
 (ho:o.op=.call {callee:=.builtin .len,args:=#[x],argTypes:=#[t]})(ht:GW Θ t=some ⟨z,bts,ag,zr,.slice e⟩)
 (hx:Q0 (Q9 (GZ L o) tm) x=some (.c (.val v)))(hi:J1 mm i=some (.pool e' sz qs))(hk:qs[c]? =some (v,xs))(hd:o.dst=some d)(hn:Nat.blt d n=true)(hg:QG L (Q9 (GZ L o) tm) o=some true)(m:Int)(hm:(xs.length:Int)=m)
 (k:DOps C n mm L tm0 l ((d,.v (.one (.c (.int .i64 m))))::QY tm d) T):DOps C n mm L tm0 (o::l) tm T:=by
 subst hm
 exact d_step (op_plen hΘ ho ht hx hi hk hd hn) hg k
end
variable {p:Prt} {role:ByteArray} {S:List (List Int)} {set:List Int}
theorem memB_mem{α:Type}[DecidableEq α]{l:List α}{a:α}(h:memB l a=true):a∈l:=by simpa[memB]using h
theorem look_mix(h:mixE p role set=true):JY p role S set=((0,801),S):=by unfold JY;rw[if_pos h]
theorem look_old(h:mixE p role set=false)(h1:J7 p role set∈S):JY p role S set=((((S.idxOf (J7 p role set):Nat):Int),0),S):=by
 unfold JY;rw[h,if_neg (by decide),if_pos h1]
theorem look_full(h:mixE p role set=false)(h1:J7 p role set∉S)(h2:S.length=40):JY p role S set=((0,805),S):=by
 unfold JY;rw[h,if_neg (by decide),if_neg h1,if_pos h2]
theorem look_new(h:mixE p role set=false)(h1:J7 p role set∉S)(h2:S.length≠40):JY p role S set=(((S.length:Int),0),S++[J7 p role set]):=by
 unfold JY;rw[h,if_neg (by decide),if_neg h1,if_neg h2]
theorem near_small(hv:prtB p=true)(role:ByteArray)(l:List Int):SmallL (J7 p role l)∧(J7 p role l).length≤24∧∀x∈J7 p role l,0≤x∧x < (p.points.length:Int):=by
 have hpl:=prt_len hv
 have hr:∀x∈J7 p role l,0≤x∧x < (p.points.length:Int):=fun x hx=>by
  have h1:=(List.mem_filter.1 hx).1
  obtain⟨k,hk,rfl⟩:=List.mem_map.1 h1
  have:=List.mem_range.1 hk
  exact⟨Int.natCast_nonneg _,by show((k:Nat):Int) < _;omega⟩
 refine⟨fun x hx=>by have:=hr x hx;omega,?_,hr⟩
 have:=List.length_filter_le (fun x=>decide (x∈waitL p role l)&&inP (Q5 p x) role) ((List.range p.points.length).map Int.ofNat)
 rw[List.length_map,List.length_range]at this
 show(List.filter _ _).length≤24
 omega
theorem wait_small(hv:prtB p=true)(role:ByteArray)(l:List Int):(waitL p role l).length≤24:=by
 have hpin:=prt_in hv
 have h1:=(bfsH_ok (pass_in hpin role) (p.g.length+1) 0 _ (start_ok p l) (fun j x hj=>by omega) (by omega) (by omega)).1.len
 have hpl:=prt_len hv
 have hgl:p.g.length=p.points.length:=by simp[Prt.g]
 rw[hgl]at h1
 show(bfsH _ _ _ _).length≤24
 omega
theorem lost_R(hv:prtB p=true)(hh:hasB p.roles role=true){x:Int}(hx:0≤x∧x < (p.points.length:Int)):lostR p role x=lostL p role x:=by
 unfold lostR lostL;rw[hv,hh,decide_eq_true hx];rfl
theorem anyT_snoc{α:Type}{l:List α}{k:Nat}(h:k < l.length)(f:α→Bool):(l.take (k+1)).any f=((l.take k).any f||f l[k]):=by
 rw[List.take_succ_eq_append_getElem h,List.any_append];simp
structure SeerOK(p:Prt)(S:List (List Int)):Prop where
 sets:SetsOK S
 small:∀m∈S,SmallL m
theorem SeerOK.look(h:SeerOK p S)(hv:prtB p=true)(role:ByteArray)(set:List Int):SeerOK p (JY p role S set).2:=by
 refine⟨look_ok h.sets set,fun m hm=>?_⟩
 rcases look_cases (p:=p) (role:=role) S set with⟨_,e⟩|⟨_,_,e⟩|⟨_,_,_,e⟩|⟨_,_,_,e⟩
 ·rw[e]at hm;exact h.small m hm
 ·rw[e]at hm;exact h.small m hm
 ·rw[e]at hm;exact h.small m hm
 ·rw[e]at hm
  rcases List.mem_append.1 hm with hm|hm
  ·exact h.small m hm
  ·rw[List.mem_singleton]at hm;subst hm;exact(near_small hv role set).1
abbrev lookT(p:Prt)(role:ByteArray)(S:List (List Int))(set:List Int):ST:=.tup [C1 (.int .i64 (JY p role S set).1.1),C1 (.int .i64 (JY p role S set).1.2)]
set_option maxHeartbeats 16000000 in
theorem look_c(p:Prt)(hv:prtB p=true)(hB:PrtBig p)(role:ByteArray)(hh:hasB p.roles role=true)(v:Value)(S:List (List Int))(hS:SeerOK p S)(set:List Int)(hset:∀x∈set,0≤x∧x < (p.points.length:Int))(hsl:set.length≤1000):
 ConM Tryz.prog 39 (seerM p role v S) [.one (.ptr G7 0),C1 (intsT set)] (fun _:Value=>True) (fun _=>lookT p role S set) (fun v'=>seerM p role v' (JY p role S set).2):=by
 have hspan:=span_c p hv role v S set hset hsl
 have hnear:=near_c p hB role set
 rw[show nearR p role set=J7 p role set by unfold nearR;rw[hv,hh];rfl]at hnear
 obtain⟨hns,hnl,_⟩:=near_small hv role set
 have hkey:=key_c (J7 p role set) (by omega) hns
 have hSl:=hS.sets.len
 have hmem:=keys_mem hS.small hns
 have hwl:=wait_small hv role set
 have hwr:∀x∈waitL p role set,0≤x∧x < (p.points.length:Int):=fun x hx=>wait_range (prt_in hv) hx
 have hmx:mixE p role set=((waitL p role set).any (lostL p role)&&(waitL p role set).any fun x=>!lostL p role x):=rfl
 obtain⟨nr,hnr⟩:∃nr,nr=J7 p role set:=⟨_,rfl⟩
 obtain⟨wt,hwt⟩:∃wt,wt=waitL p role set:=⟨_,rfl⟩
 rw[←hwt]at hspan hwl hwr hmx
 rw[←hnr]at hnear hkey hmem
 refine conM_of (c:=_) Tryz.func39 rfl rfl rfl (by decide) rfl fun w M0 H Z hd=>?_
 repeat'(first|refine gc_ rfl ?_|(refine G1 ?_;refine G0 th rfl ?_)|(refine G9 mix rfl rfl ?_;refine G3 th rfl ?_)|(refine G5 mix rfl rfl ?_;refine GJ th rfl ?_)|refine G2 ?_|refine G4 ?_|refine G6 ?_ rfl rfl|((first|refine G8 rfl rfl ?_ ?_|refine GG rfl rfl rfl ?_ ?_|refine Q1 rfl ?_ ?_)<;>intro hb<;>(try simp only[hbL]at hb)<;>first|(exfalso;omega)|refine G0 th rfl ?_|refine G3 th rfl ?_|skip)|(refine s_callM hspan [] rfl rfl rfl rfl ⟨rfl,rfl,rfl,trivial⟩ ⟨rfl,rfl,rfl,rfl,rfl⟩ (fun _=>⟨rfl,rfl,rfl,rfl,rfl,rfl,rfl⟩) (fun _=>rfl) (fun _=>rfl) rfl rfl rfl (fun _ _=>?_);refine G0 th rfl ?_))
 refine J8 (fun k:Nat=>k≤wt.length)
  (fun k=>[(0,.v (.one (.ptr G7 0))),(1,.v (C1 (intsT set))),(6,.v (C1 (.bool ((wt.take k).any (lostL p role))))),(7,.v (C1 (.bool ((wt.take k).any fun x=>!lostL p role x)))),(16,.v (C1 (intsT wt))),(17,.v (C1 (.int .i64 (wt.length:Int)))),(18,.v (C1 (.int .i64 (k:Int))))])
  (fun _=>seerM p role v S)
  (fun k=>wt.length - k) 0 (Nat.zero_le _)
  (fun a w h=>h.sub (by exact⟨⟨_,rfl,.refl _⟩,⟨_,rfl,.refl _⟩,⟨_,rfl,le_lit rfl⟩,⟨_,rfl,le_lit rfl⟩,⟨_,rfl,.refl _⟩,⟨_,rfl,GY (by simp)⟩,⟨_,rfl,GY rfl⟩,trivial⟩) (by exact⟨⟨_,rfl,.refl _⟩,⟨_,rfl,.refl _⟩,⟨_,rfl,.refl _⟩,trivial⟩) rfl rfl rfl) (fun k hk ih=>?_)
 by_cases hlt:k < wt.length
 ·have hx:(wt.map fun r=>[CT.int .i64 r])[k]? =some [.int .i64 wt[k]]:=by simp[hlt]
  have hlo:=lost_c p hB role wt[k]
  rw[lost_R hv hh (hwr _ (List.getElem_mem hlt))]at hlo
  have hih:=ih (k+1) hlt (by omega)
  rw[anyT_snoc hlt,anyT_snoc hlt]at hih
  repeat'(first|refine gc_ rfl ?_|(refine G1 ?_;refine G0 th rfl ?_)|(refine G9 mix rfl rfl ?_;refine G3 th rfl ?_)|(refine G5 mix rfl rfl ?_;refine GJ th rfl ?_)|refine G2 ?_|refine G4 ?_|refine G6 ?_ rfl rfl|((first|refine G8 rfl rfl ?_ ?_|refine GG rfl rfl rfl ?_ ?_|refine Q1 rfl ?_ ?_)<;>intro hb<;>(try simp only[hbL]at hb)<;>first|(exfalso;omega)|refine G0 th rfl ?_|refine G3 th rfl ?_|skip)|(refine K2 th rfl rfl rfl rfl rfl rfl rfl rfl rfl k _ rfl hx ?_;refine G0 th rfl ?_)|(refine d_call hlo [] rfl rfl rfl rfl rfl rfl rfl rfl rfl rfl rfl ?_;refine G3 th rfl ?_)|(refine QW rfl rfl rfl rfl rfl rfl (by omega) ?_;refine G0 th rfl ?_))
  ·rw[hb,Bool.or_true,show(!true)=false from rfl,Bool.or_false]at hih
   exact QK (by exact⟨⟨_,rfl,.refl _⟩,⟨_,rfl,.refl _⟩,⟨_,rfl,le_lit rfl⟩,⟨_,rfl,.refl _⟩,⟨_,rfl,.refl _⟩,⟨_,rfl,.refl _⟩,⟨_,rfl,GY (by omega)⟩,trivial⟩) (by exact⟨⟨_,rfl,.refl _⟩,⟨_,rfl,.refl _⟩,⟨_,rfl,.refl _⟩,trivial⟩) rfl rfl rfl hih
  ·rw[hb,Bool.or_false,show(!false)=true from rfl,Bool.or_true]at hih
   exact QK (by exact⟨⟨_,rfl,.refl _⟩,⟨_,rfl,.refl _⟩,⟨_,rfl,.refl _⟩,⟨_,rfl,le_lit rfl⟩,⟨_,rfl,.refl _⟩,⟨_,rfl,.refl _⟩,⟨_,rfl,GY (by omega)⟩,trivial⟩) (by exact⟨⟨_,rfl,.refl _⟩,⟨_,rfl,.refl _⟩,⟨_,rfl,.refl _⟩,trivial⟩) rfl rfl rfl hih
 ·rw[show wt.take k=wt from List.take_of_length_le (by omega)]
  clear ih
  obtain⟨b1,hb1⟩:∃b1,b1=wt.any (lostL p role):=⟨_,rfl⟩
  obtain⟨b2,hb2⟩:∃b2,b2=wt.any fun x=>!lostL p role x:=⟨_,rfl⟩
  rw[←hb1,←hb2]at hmx⊢
  have e1:rowsI S++[[intsT nr]]=rowsI (S++[nr]):=by simp[rowsI]
  have hl1:((rowsI S).length:Int)=(S.length:Int):=by simp
  have hl2:((rowsI S++[[intsT nr]]).length:Int)=(S.length:Int)+1:=by simp
  have e2:S.map keyJ++[keyJ nr]=(S++[nr]).map keyJ:=by simp
  repeat'(first|(refine g_atR 18 rfl ?_;refine g_drawA mix rfl rfl rfl rfl rfl rfl ?_;refine G3 th rfl ?_)|(refine G4 ?_;refine G0 th rfl ?_)|refine gc_ rfl ?_|(refine G1 ?_;refine G0 th rfl ?_)|(refine G9 mix rfl rfl ?_;refine G3 th rfl ?_)|(refine G5 mix rfl rfl ?_;refine GJ th rfl ?_)|refine G2 ?_|refine G4 ?_|refine G6 ?_ rfl rfl|((first|refine G8 rfl rfl ?_ ?_|refine GG rfl rfl rfl ?_ ?_|refine Q1 rfl ?_ ?_)<;>intro hb<;>(try simp only[hbL]at hb)<;>first|(exfalso;omega)|refine G0 th rfl ?_|refine G3 th rfl ?_|skip)|(refine d_call hnear [] rfl rfl rfl rfl rfl rfl rfl rfl rfl rfl rfl ?_;refine G3 th rfl ?_)|((first|refine Q4 hkey [] rfl rfl rfl rfl rfl rfl rfl rfl rfl rfl ?_|refine s_lookNS th rfl rfl rfl rfl rfl rfl rfl rfl rfl rfl ?_|refine s_plen th 1 0 rfl rfl rfl rfl rfl rfl rfl rfl _ hl1 ?_|refine s_plen th 1 0 rfl rfl rfl rfl rfl rfl rfl rfl _ hl2 ?_);refine G0 th rfl ?_)|(refine d_plen th 1 0 rfl rfl rfl rfl rfl rfl rfl rfl _ hl1 ?_;refine G3 th rfl ?_)|(refine s_putNS th (.inl rfl) rfl rfl rfl rfl rfl rfl rfl rfl (by simp) (notMem_of (by assumption)) ?_;refine G0 th rfl ?_)|(refine s_freeze 82 rfl rfl ?_;refine s_pappend th (i:=1) rfl rfl rfl rfl rfl rfl rfl rfl rfl rfl rfl rfl rfl rfl 0 rfl (by constructor<;>simp<;>omega) (fun v'=>?_);refine G0 th rfl ?_)|(refine s_subI rfl rfl rfl rfl rfl rfl (by omega) ?_;refine G0 th rfl ?_))
  all_goals unfold lookT
  all_goals first
   |(rw[look_mix (by rw[hmx,show b1=true by assumption,show b2=true by assumption];rfl)]
     exact JW (hd:=hd) th Tryz.func39 v (.inr ⟨_,rfl⟩) rfl rfl rfl rfl ⟨rfl,rfl,rfl,trivial⟩ rfl rfl rfl trivial)
   |(have hmf:mixE p role set=false:=by
      rw[hmx];first|(rw[show b1=false by assumption];rfl)|(rw[show b2=false by assumption,Bool.and_false])
     first
      |(have hq:memB (S.map keyJ) (keyJ nr)=true:=by assumption
        have hin:nr∈S:=hmem.1 (memB_mem hq)
        have e3:numI (S.map keyJ) (keyJ nr)=S.idxOf nr:=keys_idx hS.small (hnr▸hns) hin
        rw[look_old hmf (hnr▸hin),←hnr,e3]
        exact JW (hd:=hd) th Tryz.func39 v (.inr ⟨_,rfl⟩) rfl rfl rfl rfl ⟨rfl,rfl,rfl,trivial⟩ rfl rfl rfl trivial)
      |(have hin:nr∉S:=fun h=>absurd (hmem.2 h) (notMem_of (by assumption))
        first
             |(rw[look_full hmf (hnr▸hin) (by omega)]
               exact JW (hd:=hd) th Tryz.func39 v (.inr ⟨_,rfl⟩) rfl rfl rfl rfl ⟨rfl,rfl,rfl,trivial⟩ rfl rfl rfl trivial)
             |(rw[look_new hmf (hnr▸hin) (by omega),←hnr]
               simp only[List.set_cons_zero]
               rw[e1,e2]
               exact JW (hd:=hd) th Tryz.func39 v' (.inr ⟨_,rfl⟩) rfl (by rw[show(S.length:Int)+1 - 1=(S.length:Int) by omega];rfl) rfl rfl ⟨rfl,rfl,rfl,trivial⟩ rfl rfl rfl trivial)))
end Go.Sy
