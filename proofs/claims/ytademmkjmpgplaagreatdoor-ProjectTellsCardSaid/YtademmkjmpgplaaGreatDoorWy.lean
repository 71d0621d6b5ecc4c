/- What rounds makes is a valid protocol; reparteemake.Protocol where the first number picks three roles in rounds; layer 7's protocol of 3 :: made. -/
import Derived.Test.YtademmkjmpgplaaGreatDoorWr
import Derived.Test.YtademmkjmpgplaaGreatDoorWl
set_option linter.unusedSimpArgs false
set_option linter.unusedVariables false
set_option linter.unusedSectionVars false
namespace Go.Sy
open Go.Proofs
set_option maxRecDepth 100000
attribute [local irreducible] SOps Goes DOps EOps GOps FOps
theorem one_arm{n kd nx:Int}{s nm:ByteArray}(hs:nameB s=true)(hc:carB kd nm=true)(h:0≤nx∧nx < n):armsOK n [⟨s,kd,nm,nx⟩]=true:=by
 unfold armsOK armB
 simp[hs,hc,h]
theorem two_arms{n kd nx kd' nx':Int}{s nm s' nm':ByteArray}(hne:s≠s')(hs:nameB s=true)(hc:carB kd nm=true)(h:0≤nx∧nx < n)(hs':nameB s'=true)(hc':carB kd' nm'=true)(h':0≤nx'∧nx' < n):
 armsOK n [⟨s,kd,nm,nx⟩,⟨s',kd',nm',nx'⟩]=true:=by
 unfold armsOK armB
 simp[hs,hc,h,hs',hc',h',hne]
theorem pnt_of{many:Nat}(hm:2≤many∧many≤5){n:Int}{a b:Nat}(ha:a < many)(hb:b < many)(hne:a≠b){arms:List Arm}(h:armsOK n arms=true):pntB (rolesL.take many) n ⟨GV a,GV b,arms⟩=true:=by
 unfold pntB
 simp only
 rw[roleN_place hm _ ha,roleN_place hm _ hb,h,decide_eq_true (show(0:Int)≤(a:Int) by omega),decide_eq_true (show(0:Int)≤(b:Int) by omega),decide_eq_true (show GV a≠GV b from fun e=>hne (roleN_inj hm _ _ ha hb e))]
 simp
theorem rndP_len{many:Nat}(hm:2≤many)(b:Bool)(go quit:ByteArray)(c:Int)(cs:List (Int×ByteArray))(d:Int):(rndP many b go quit c cs d).length=if b then 2 * many - 1 else 2 * many - 2:=by
 unfold rndP
 cases b<;>simp<;>omega
theorem rndP_ok{many:Nat}(hm:2≤many∧many≤5)(b:Bool){go quit:ByteArray}{c d:Int}{cs:List (Int×ByteArray)}(hg:nameB go=true)(hq:nameB quit=true)(hgq:go≠quit)(hc:carB c ⟨#[]⟩=true)(hd:carB d ⟨#[]⟩=true)
 (hcs:∀i,carB (cs.getD i (0,⟨#[]⟩)).1 (cs.getD i (0,⟨#[]⟩)).2=true∧(cs.getD i (0,⟨#[]⟩)).2.size≤1000){n:Int}(hn:n=((if b then 2 * many - 1 else 2 * many - 2:Nat):Int)):
 ∀x∈rndP many b go quit c cs d,pntB (rolesL.take many) n x=true∧∀a∈x.arms,a.name.size≤1000:=by
 intro x hx
 have h0:carB 0 ⟨#[]⟩=true:=rfl
 have hz:(⟨#[]⟩:ByteArray).size≤1000:=by decide
 have h2:2 * (many:Int) - 2≤n:=by cases b<;>simp at hn<;>omega
 have h2t:b=true→2 * (many:Int) - 1≤n:=fun e=>by subst e;simp at hn;omega
 unfold rndP at hx
 rcases List.mem_append.1 hx with hx|hx
 ·rcases List.mem_append.1 hx with hx|hx
  ·rcases List.mem_append.1 hx with hx|hx
   ·rcases List.mem_cons.1 hx with rfl|hx
    ·refine⟨pnt_of hm (by omega) (by omega) (by omega) (two_arms hgq hg hc ?_ hq h0 ?_),fun a ha=>?_⟩
     ·cases b
      ·simp only[Bool.false_or]
       cases hb:Nat.blt 2 many
       ·simp;omega
       ·have:=Nat.blt_eq.mp hb;simp;omega
      ·simp;omega
     ·cases b
      ·simp;omega
      ·have:=h2t rfl;simp;omega
     ·simp at ha
      rcases ha with rfl|rfl<;>exact hz
    ·obtain⟨i,hi,rfl⟩:=List.mem_map.1 hx
     have hi:=List.mem_range.1 hi
     refine⟨pnt_of hm (by omega) (by omega) (by omega) (one_arm hg (hcs i).1 ?_),fun a ha=>?_⟩
     ·cases b
      ·simp only[Bool.false_or]
       cases hb:Nat.blt (i+3) many
       ·simp;omega
       ·have:=Nat.blt_eq.mp hb;simp;omega
      ·simp;omega
     ·simp at ha
      subst ha;exact(hcs i).2
   ·cases b with
    |false=>simp at hx
    |true=>
     simp at hx
     subst hx
     refine⟨pnt_of hm (by omega) (by omega) (by omega) (one_arm (by decide) hd ?_),fun a ha=>?_⟩
     ·simp;omega
     ·simp at ha;subst ha;exact hz
  ·obtain⟨i,hi,rfl⟩:=List.mem_map.1 hx
   have hi:=List.mem_range.1 hi
   refine⟨pnt_of hm (by omega) (by omega) (by omega) (one_arm hq h0 ?_),fun a ha=>?_⟩
   ·cases b
    ·simp;omega
    ·have:=h2t rfl;simp;omega
   ·simp at ha;subst ha;exact hz
 ·rw[List.mem_singleton]at hx
  subst hx
  exact⟨rfl,fun a ha=>by cases ha⟩
theorem rndGo_or(l:List Int)(k:Nat):rndGo l k=⟨#[119]⟩∨rndGo l k=⟨#[120]⟩:=by
 have h:=JQ l k (n:=2) (by omega) (by omega)
 unfold rndGo
 have:(pkV l k 2).toNat=0∨(pkV l k 2).toNat=1:=by omega
 rcases this with e|e<;>rw[e]
 ·exact .inl rfl
 ·exact .inr rfl
theorem rndQuit_or(l:List Int)(k:Nat):rndQuit l k=⟨#[121]⟩∨rndQuit l k=⟨#[122]⟩:=by
 have h:=JQ l (pkA l k) (n:=2) (by omega) (by omega)
 unfold rndQuit
 have:(2+pkV l (pkA l k) 2).toNat=2∨(2+pkV l (pkA l k) 2).toNat=3:=by omega
 rcases this with e|e<;>rw[e]
 ·exact .inl rfl
 ·exact .inr rfl
theorem data_car(l:List Int)(k:Nat):carB (dataV l k) ⟨#[]⟩=true:=by
 have:=data_range l k
 rw[carB_data _ this.1 this.2];rfl
theorem carS_ok{types:List ByteArray}(ht:TypesOK types)(hl:types.length≤1000)(l:List Int)(k:Nat):∀i,∀x∈(carS types l k i).1,carB x.1 x.2=true∧x.2.size≤1000
 |0,x,h=>by cases h
 |i+1,x,h=>by
  rw[carS]at h
  rcases List.mem_append.1 h with h|h
  ·exact carS_ok ht hl l k i x h
  ·rw[List.mem_singleton]at h;subst h;exact carV_ok ht hl l _
theorem rndV_ok{name:ByteArray}(hn:nameB name=true){types:List ByteArray}(ht:TypesOK types)(hl:types.length≤1000)(l:List Int)(k:Nat){many:Nat}(hm:2≤many∧many≤5):prtB (rndV name types l many k).1=true∧PrtBig (rndV name types l many k).1:=by
 have hlen:(rndV name types l many k).1.points.length=if rndB l k then 2 * many - 1 else 2 * many - 2:=rndP_len hm.1 _ _ _ _ _ _
 have hcs:∀i,carB ((carS types l (rnd4 l k) (many - 2)).1.getD i (0,⟨#[]⟩)).1 ((carS types l (rnd4 l k) (many - 2)).1.getD i (0,⟨#[]⟩)).2=true∧((carS types l (rnd4 l k) (many - 2)).1.getD i (0,⟨#[]⟩)).2.size≤1000:=fun i=>by
  rw[List.getD_eq_getElem?_getD]
  cases hx:(carS types l (rnd4 l k) (many - 2)).1[i]? with
  |none=>exact⟨rfl,by decide⟩
  |some x=>exact carS_ok ht hl l _ _ x (List.mem_of_getElem? hx)
 have hall:=rndP_ok hm (rndB l k) (go:=rndGo l k) (quit:=rndQuit l k) (c:=dataV l (pkA l (pkA l (pkA l k)))) (d:=dataV l (carS types l (rnd4 l k) (many - 2)).2) (cs:=(carS types l (rnd4 l k) (many - 2)).1)
  (by rcases rndGo_or l k with e|e<;>rw[e]<;>decide) (by rcases rndQuit_or l k with e|e<;>rw[e]<;>decide)
  (by rcases rndGo_or l k with e|e<;>rcases rndQuit_or l k with e'|e'<;>rw[e,e']<;>decide) (data_car l _) (data_car l _) hcs rfl
 obtain⟨ho,hnm,hrl⟩:=roleN_once hm
 have h24:1≤(if rndB l k then 2 * many - 1 else 2 * many - 2)∧(if rndB l k then 2 * many - 1 else 2 * many - 2)≤24:=by cases rndB l k<;>simp<;>omega
 refine⟨?_,fun x hx a ha=>Nat.le_trans ((hall x hx).2 a ha) (by decide)⟩
 unfold prtB
 rw[hlen,show(rndV name types l many k).1.roles=rolesL.take many from rfl,hrl]
 rw[show nameB (rndV name types l many k).1.name=true from hn,decide_eq_true hm.1,decide_eq_true hm.2,ho,hnm,decide_eq_true h24.1,decide_eq_true h24.2]
 simp only[Bool.true_and,List.all_eq_true]
 exact fun x hx=>(hall x hx).1
theorem ConM.args{P:Program}{f:FuncId}{pre:MM}{args args':List SV}{ι:Type}{Q:ι→Prop}{res:ι→ST}{post:ι→MM}(h:ConM P f pre args Q res post)(hl:LeVs args' args):ConM P f pre args' Q res post:=
 ⟨h.ok,fun w M0 H Z vs hpre hp=>h.calls w M0 H Z vs hpre (LeVs.rep hl hp)⟩
theorem rnd3_c(name:ByteArray)(types:List ByteArray)(ht:types.length≤1000)(l:List Int)(k:Nat)(hk:k≤l.length):
 ConM Tryz.prog 68 [(G7,.box ((J5 l k).map SC.c))] [.one (.ptr G7 0),C1 (.str name),C1 (.int .i64 ((3:Nat):Int)),C1 (Q8 types)]
  (fun _:PV=>True) (fun v=>.v (.agg [.c (.str name),.c (.val v.1),.c (.val v.2)])) (fun v=>[(G7,.box ((J5 l (rndV name types l 3 k).2).map SC.c)),(22,.pool 9 1 [(v.1,(rolesL.take 3).map fun s=>[CT.str s])]),(200,.pool 52 3 [(v.2,(rndV name types l 3 k).1.points.map Pnt.cs)])]):=by
 by_cases hb:pkV l (pkA l (pkA l k)) 2=1
 ·exact rnd3t_c name types ht l k hk hb
 ·exact rnd3f_c name types ht l k hk hb
set_option maxHeartbeats 16000000 in
theorem prot3_c(name:ByteArray)(types:List ByteArray)(ht:types.length≤1000)(l:List Int)(k:Nat)(hk:k≤l.length)(h3:pkV l k 4=3):
 ConM Tryz.prog 34 [(G7,.box ((J5 l k).map SC.c))] [.one (.ptr G7 0),C1 (.str name),C1 (Q8 types)]
  (fun _:PV=>True) (fun v=>.v (.agg [.c (.str name),.c (.val v.1),.c (.val v.2)])) (fun v=>[(G7,.box ((J5 l (rndV name types l 3 (pkA l k)).2).map SC.c)),(22,.pool 9 1 [(v.1,(rolesL.take 3).map fun s=>[CT.str s])]),(200,.pool 52 3 [(v.2,(rndV name types l 3 (pkA l k)).1.points.map Pnt.cs)])]):=by
 have hp:=pickx_c l k hk 4 (by omega) (by omega)
 rw[h3]at hp
 have hr:=rnd3_c name types ht l (pkA l k) (JZ hk)
 refine conM_of (c:=_) Tryz.func34 rfl rfl rfl (by decide) rfl fun w M0 H Z hd=>?_
 obtain⟨q,hq⟩:∃q,q=rndV name types l 3 (pkA l k):=⟨_,rfl⟩
 rw[←hq]at hr⊢
 repeat'(first|refine gc_ rfl ?_|(refine G1 ?_;refine G0 th rfl ?_)|(refine G9 mix rfl rfl ?_;refine G3 th rfl ?_)|(refine G5 mix rfl rfl ?_;refine GJ th rfl ?_)|refine G2 ?_|refine G4 ?_|refine G6 ?_ rfl rfl|((first|refine G8 rfl rfl ?_ ?_|refine GG rfl rfl rfl ?_ ?_|refine Q1 rfl ?_ ?_)<;>intro hb<;>(try simp only[hbL]at hb)<;>first|(exfalso;omega)|refine G0 th rfl ?_|refine G3 th rfl ?_|skip)|((first|refine Q4 hp [G7] rfl rfl rfl rfl rfl rfl rfl rfl rfl rfl ?_|refine s_callM hr [(G7,G7)] rfl rfl rfl rfl ⟨rfl,trivial⟩ ⟨rfl,rfl,rfl,rfl,rfl⟩ (fun _=>⟨rfl,rfl,rfl,rfl,rfl,rfl,rfl⟩) (fun _=>rfl) (fun _=>rfl) rfl rfl rfl (fun v _=>?_));refine G0 th rfl ?_))
 all_goals first|(exfalso;revert hb;simp;done)|exact JW (hd:=hd) th Tryz.func34 v (.inr ⟨_,rfl⟩) rfl rfl rfl rfl ⟨rfl,rfl,rfl,trivial⟩ rfl rfl rfl trivial
end Go.Sy
