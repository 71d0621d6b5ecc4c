/- For every input the Go function StageMirrors returns true and its arguments read afterwards as they read before. No condition. -/
import Derived.Test.YtdjocfajcbhmgaaGreatDoorCards
import Derived.Test.YtdjocfajcbhmgaaGreatDoorTie
import Derived.Deep.DeepHandedRow
import Derived.SevenTiedAt
import Derived.Test.YtdjocfajcbhmgaaGreatDoorCd
import Derived.Test.YtdjocfajcbhmgaaGreatDoorTop
import Derived.Test.YtdjocfajcbhmgaaGreatDoorJfa
import Derived.WalkKit
import Derived.SizedLaws
import Derived.ProofKit
import Derived.OpenShut
import Derived.ShutString
import Derived.ChangeOld
import Derived.Below
namespace Go.Proofs.YtdjocfajcbhmgaaGreatDoor.stageMirrors
open Go.ChangeShapes Go.WideShapes Go.ChangeAt Go.RowKit
open Go.ChangeMaps (open_string shut_string)
set_option linter.unusedVariables false
theorem own:ownKnob Tryz.prog.godebug=none:=by kernel_rfl
theorem laidOut:laidOutB Tryz.prog=true:=by kernel_rfl
def Ei(k:IntKind)(w:World)(a:Option Addr)(len cap:Nat)(zs:List Int):Prop:=
 (a=none∧len=0∧cap=0∧zs=[])∨
 ∃x,a=some x∧len≤cap∧cap≤maxLen∧zs.length=cap∧(∀i,i < zs.length→w.cell? (x.add i)=some (.int k (zs.getD i 0)))∧(∀n∈zs,(Lit.int k n).wf=true)∧zs.length * 8≤140737488351232
theorem walk(a0:Option Addr)(yc I5:Nat)(z0:List Int)(a1:Option Addr)(yb I4:Nat)(z1:List Int)(w:World)(w0:Ei .i64 w a0 yc I5 z0)(w1:Ei .i64 w a1 yb I4 z1):
 Calls Tryz.prog 8 #[.slice a0 yc I5,.slice a1 yb I4] w fun e w'=>e=.returned (.bool true)∧Below w.heap.size w w':=by
 rcases w0 with⟨rfl,rfl,rfl,rfl⟩|⟨x0,rfl,l0,m0,Uv,c0,_,s0⟩<;>rcases w1 with⟨rfl,rfl,rfl,rfl⟩|⟨x1,rfl,l1,m1,Uu,c1,_,s1⟩
 ·exact(Go.Sy.iN [] [] (by simp)).top (cts:=[Go.Sy.cA [],Go.Sy.cA []]) (Go.Sy.lj Go.Sy.sY (Go.Sy.lj Go.Sy.sY Go.Sy.xO))
 ·exact(Go.Sy.iN [] (z1.take yb) (by simp)).top (cts:=[Go.Sy.cA [],Go.Sy.cA (z1.take yb)]) (Go.Sy.lj Go.Sy.sY (Go.Sy.lj (Go.Sy.qd l1 m1 Uu c1) Go.Sy.xO))
 ·exact(Go.Sy.iN (z0.take yc) [] (by simp;omega)).top (cts:=[Go.Sy.cA (z0.take yc),Go.Sy.cA []]) (Go.Sy.lj (Go.Sy.qd l0 m0 Uv c0) (Go.Sy.lj Go.Sy.sY Go.Sy.xO))
 ·exact(Go.Sy.iN (z0.take yc) (z1.take yb) (by simp;omega)).top (cts:=[Go.Sy.cA (z0.take yc),Go.Sy.cA (z1.take yb)]) (Go.Sy.lj (Go.Sy.qd l0 m0 Uv c0) (Go.Sy.lj (Go.Sy.qd l1 m1 Uu c1) Go.Sy.xO))
noncomputable def rG(os:Os):World:=
 {World.holding Tryz.prog os ⟨#[],#[],[]⟩with heap:=((((World.holding Tryz.prog os ⟨#[],#[],[]⟩).heap.modify 0 fun
  |.cells _ t frozen=>.cells #[.int .u64 1,.int .u64 10,.int .u64 100,.int .u64 1000,.int .u64 10000,.int .u64 100000,.int .u64 1000000,.int .u64 10000000,.int .u64 100000000,.int .u64 1000000000,.int .u64 10000000000,.int .u64 100000000000,.int .u64 1000000000000,.int .u64 10000000000000,.int .u64 100000000000000,.int .u64 1000000000000000,.int .u64 10000000000000000,.int .u64 100000000000000000,.int .u64 1000000000000000000,.int .u64 10000000000000000000] t frozen
  |o=>o).modify 2 fun
  |.cells _ t frozen=>.cells #[.int .u8 0,.int .u8 1,.int .u8 28,.int .u8 2,.int .u8 29,.int .u8 14,.int .u8 24,.int .u8 3,.int .u8 30,.int .u8 22,.int .u8 20,.int .u8 15,.int .u8 25,.int .u8 17,.int .u8 4,.int .u8 8,.int .u8 31,.int .u8 27,.int .u8 13,.int .u8 23,.int .u8 21,.int .u8 19,.int .u8 16,.int .u8 7,.int .u8 26,.int .u8 12,.int .u8 18,.int .u8 6,.int .u8 11,.int .u8 5,.int .u8 10,.int .u8 9] t frozen
  |o=>o).modify 3 fun
  |.cells _ t frozen=>.cells #[.int .u8 0,.int .u8 1,.int .u8 56,.int .u8 2,.int .u8 57,.int .u8 49,.int .u8 28,.int .u8 3,.int .u8 61,.int .u8 58,.int .u8 42,.int .u8 50,.int .u8 38,.int .u8 29,.int .u8 17,.int .u8 4,.int .u8 62,.int .u8 47,.int .u8 59,.int .u8 36,.int .u8 45,.int .u8 43,.int .u8 51,.int .u8 22,.int .u8 53,.int .u8 39,.int .u8 33,.int .u8 30,.int .u8 24,.int .u8 18,.int .u8 12,.int .u8 5,.int .u8 63,.int .u8 55,.int .u8 48,.int .u8 27,.int .u8 60,.int .u8 41,.int .u8 37,.int .u8 16,.int .u8 46,.int .u8 35,.int .u8 44,.int .u8 21,.int .u8 52,.int .u8 32,.int .u8 23,.int .u8 11,.int .u8 54,.int .u8 26,.int .u8 40,.int .u8 15,.int .u8 34,.int .u8 20,.int .u8 31,.int .u8 10,.int .u8 25,.int .u8 14,.int .u8 19,.int .u8 9,.int .u8 13,.int .u8 8,.int .u8 7,.int .u8 6] t frozen
  |o=>o)}
theorem HI(os:Os):laidMet Tryz.prog Rows.stageMirrorsRow.laid ((rG os).forCall (fun _ _=>0) ⟨#[],#[.slice none 0 0,.slice none 0 0],[]⟩).memory:=
 laidMet_of_run' 8 (by kernel_rfl) (by kernel_rfl)
theorem reads(os:Os){H:Type}(enc:TypeId×Value→H):∃places,DataW.whole enc Tryz.prog ((rG os).forCall (fun _ _=>0) ⟨#[],#[.slice none 0 0,.slice none 0 0],[]⟩).memory Tryz.f8.params.toList Rows.stageMirrorsSpec.vars false ((#[.slice none 0 0,.slice none 0 0]:Array Value).toList) 8=some ([.nil,.nil],[],places):=
 ⟨[],by kernel_rfl⟩
set_option maxRecDepth 100000 in
theorem IY(H:Type)(enc:TypeId×Value→H)(W:World)(base:Nat)(args:Array Value)(ds gs:List (DataW H))(before:List MemPlace)
 (Me:∀(j:Nat) t v,Tryz.f8.params[j]? =some t→args[j]? =some v→Value.okWide Tryz.prog W .any base t v)
 (hW:DataW.Whole enc Tryz.prog Tryz.f8.params.toList Rows.stageMirrorsSpec.vars false W args.toList ds gs before)
 (SU:(DataW.weightsEach Tryz.prog (Tryz.f8.params.toList++Rows.stageMirrorsSpec.plain.varTypes Tryz.prog) (ds++gs)).all (·≤reachBytes)=true):
 Calls Tryz.prog 8 args W fun e W'=>∃v,e=.returned v∧Rows.stageMirrorsSpec.post enc Tryz.prog Tryz.f8 false true false false W args v W':=by
 have Ay:∀(j:Nat) t v,Tryz.f8.params[j]? =some t→args[j]? =some v→Value.okWide Tryz.prog W .any base t v:=Me
 have Wt:=hW
 obtain⟨p,q,U9,hV,rfl,hfz,kI⟩:=hW
 have hA:DataW.TrodAll enc Tryz.prog W 0 (fun _=>true) true Tryz.f8.params.toList args.toList ds p:=U9
 have c8:(DataW.weightsEach Tryz.prog (Tryz.f8.params.toList++Rows.stageMirrorsSpec.plain.varTypes Tryz.prog) (ds++gs)).all (·≤reachBytes)=true:=SU
 rw[Tryz.params8]at hA Ay c8
 obtain⟨v0,vs0,d0,ds0,p0,q0,cE,rfl,rfl,h0,r0⟩:=trodAll_cons hA
 obtain⟨v1,vs1,d1,ds1,p1,q1,rfl,rfl,rfl,h1,r1⟩:=trodAll_cons r0
 obtain⟨rfl,rfl,rfl⟩:=trodAll_nil r1
 obtain rfl:args=#[v0,v1]:=by cases args;simp_all
 obtain⟨rfl,rfl⟩:=trodVars_none hV
 obtain⟨a0,yc,I5,rfl⟩:=okWide_slice Tryz.underlying22 (Ay 0 22 v0 rfl rfl)
 have k0:=h0
 have Vl:∀x∈p0,x.block < W.heap.size:=by obtain⟨m,hm⟩:=k0;exact DataW.trod_lt m _ _ _ hm
 obtain⟨z0,w0⟩:∃zs,Ei .i64 W a0 yc I5 zs:=by
  obtain⟨fuel,hf⟩:=h0
  rcases open_ints Tryz.underlying22 Tryz.underlying3 (by kernel_rfl) hf with⟨sR,_⟩|⟨x,l,c,zs,sR,_,hl,hm,hz,hx,nJ,SP⟩
  ·simp[Value.cells]at sR
   obtain⟨rfl,rfl,rfl⟩:=sR
   exact⟨[],.inl ⟨rfl,rfl,rfl,rfl⟩⟩
  ·simp[Value.cells]at sR
   obtain⟨rfl,rfl,rfl⟩:=sR
   have TJ:=congrArg Prod.fst hx
   simp only at TJ
   have hs:=sized_slice c8 (j:=0) (t:=22) (e:=3) rfl (by first|exact congrArg some TJ|rw[TJ];rfl) Tryz.underlying22
   rw[show Tryz.prog.bytesOf 3=8 by kernel_rfl]at hs
   have hs:zs.length * 8≤140737488351232:=by
    simp only[lits,List.length_map,List.length_take,List.length_drop,reachBytes]at hs
    omega
   exact⟨zs,.inr ⟨_,rfl,hl,hm,by simpa using hz,nJ,SP,hs⟩⟩
 obtain⟨a1,yb,I4,rfl⟩:=okWide_slice Tryz.underlying22 (Ay 1 22 v1 rfl rfl)
 have k1:=h1
 have Vk:∀x∈p1,x.block < W.heap.size:=by obtain⟨m,hm⟩:=k1;exact DataW.trod_lt m _ _ _ hm
 obtain⟨z1,w1⟩:∃zs,Ei .i64 W a1 yb I4 zs:=by
  obtain⟨fuel,hf⟩:=h1
  rcases open_ints Tryz.underlying22 Tryz.underlying3 (by kernel_rfl) hf with⟨sR,_⟩|⟨x,l,c,zs,sR,_,hl,hm,hz,hx,nJ,SP⟩
  ·simp[Value.cells]at sR
   obtain⟨rfl,rfl,rfl⟩:=sR
   exact⟨[],.inl ⟨rfl,rfl,rfl,rfl⟩⟩
  ·simp[Value.cells]at sR
   obtain⟨rfl,rfl,rfl⟩:=sR
   have TI:=congrArg Prod.fst hx
   simp only at TI
   have hs:=sized_slice c8 (j:=1) (t:=22) (e:=3) rfl (by first|exact congrArg some TI|rw[TI];rfl) Tryz.underlying22
   rw[show Tryz.prog.bytesOf 3=8 by kernel_rfl]at hs
   have hs:zs.length * 8≤140737488351232:=by
    simp only[lits,List.length_map,List.length_take,List.length_drop,reachBytes]at hs
    omega
   exact⟨zs,.inr ⟨_,rfl,hl,hm,by simpa using hz,nJ,SP,hs⟩⟩
 clear U9 Me
 refine(walk a0 yc I5 z0 a1 yb I4 z1 W w0 w1).mono fun e W' ⟨he,Ur⟩=>?_
 subst he
 exact⟨_,rfl,_,_,_,[],_,[],Wt,trodAll_mk1 (shut_bool Tryz.underlying4 _),(trodAll_cons_mk (Below.trod laidOut (by kernel_rfl) (of_decide_eq_true (by kernel_rfl)) k0 Ur Vl) (trodAll_cons_mk (Below.trod laidOut (by kernel_rfl) (of_decide_eq_true (by kernel_rfl)) k1 Ur Vk) trodAll_mk0)),rfl,Ur.frame _,fun h=>by cases h⟩
set_option maxRecDepth 100000 in
theorem lifted(os:Os)(started:os.Started)(H:Type)(enc:TypeId×Value→H)(F:Stop.Interp):
 ReturnsInHanded {} Tryz.checked os 8 .any ((OpenSpec.ofChange Rows.stageMirrorsSpec).preRow enc Tryz.prog Tryz.f8 Rows.stageMirrorsRow.domain false Rows.stageMirrorsRow.laid) (((OpenSpec.ofChange Rows.stageMirrorsSpec).at F).post enc Tryz.prog Tryz.f8 false true false false):=by
 obtain⟨places,hx⟩:=reads os enc
 refine returnsInHanded_of_row (C:=Tryz.checked) (s:=OpenSpec.ofChange Rows.stageMirrorsSpec) own started (by kernel_rfl) Tryz.func8
  (witness_row_at (enc:=enc) (C:=Tryz.checked) false (rG os) #[.slice none 0 0,.slice none 0 0] rfl (by kernel_rfl) (by kernel_rfl) (by kernel_rfl)
    (OpenSpec.preRow_of_cond 8 hx (by kernel_rfl) (fun k hk=>by cases hk) (by kernel_rfl) (HI os))) ?_
 intro W base args ds gs before Ay hW _ _ c8 _ _ _
 exact IY H enc W base args ds gs before Ay hW c8
theorem closed:joinedFacts Tryz.pinned.checked.prog 8 Tryz.f8 (OpenSpec.ofChange Rows.stageMirrorsSpec).bare Rows.stageMirrorsRow=true:=by
 unfold joinedFacts
 refine Bool.and_eq_true_iff.2 ⟨?_,by kernel_rfl⟩
 refine Bool.and_eq_true_iff.2 ⟨?_,by kernel_rfl⟩
 refine Bool.and_eq_true_iff.2 ⟨?_,by kernel_rfl⟩
 refine Bool.and_eq_true_iff.2 ⟨?_,by kernel_rfl⟩
 refine Bool.and_eq_true_iff.2 ⟨?_,Go.Sy.NG⟩
 refine Bool.and_eq_true_iff.2 ⟨?_,Go.Sy.NI⟩
 refine Bool.and_eq_true_iff.2 ⟨?_,Go.Sy.KN⟩
 refine Bool.and_eq_true_iff.2 ⟨?_,Go.Sy.KM⟩
 kernel_rfl
theorem said:Rows.StageMirrorsSaid:=
 OpenClaim.holds_of_cond 8 Tryz.f8 rfl rfl rfl rfl rfl rfl rfl ⟨rfl,rfl,rfl,rfl,rfl⟩ rfl rfl rfl rfl rfl (by kernel_rfl) Tryz.func8 closed
  (of_decide_eq_true (by kernel_rfl)) (by unfold Func.isWrapper;first|(rw[if_pos (by decide+kernel)];kernel_rfl)|(rw[if_neg (by decide+kernel)];exact⟨rfl,rfl⟩))
  (fun os started H enc _ F=>by rw[OpenClaim.pre_eq_preRow];exact lifted os started H enc F)
theorem plain(f:FuncId)(fn:Func)(hf:Tryz.pinned.checked.prog.funcNamed "repartee/reparteelaw13.StageMirrors"=some f)(Wa:Tryz.pinned.checked.prog.funcs[f]? =some fn):
 false=Tryz.pinned.checked.prog.looks []∧∀(j:Nat) t,fn.params[j]? =some t→Tryz.pinned.checked.prog.wantsStandIn t=false:=by
 obtain rfl:f=8:=Option.some.inj ((show Tryz.prog.funcNamed "repartee/reparteelaw13.StageMirrors"=some 8 by kernel_rfl).symm.trans hf) |>.symm
 obtain rfl:fn=Tryz.f8:=(Option.some.inj (Tryz.func8.symm.trans Wa)).symm
 refine⟨by kernel_rfl,fun j t ht=>?_⟩
 rw[Tryz.params8]at ht
 have hm:=Array.mem_of_getElem? ht
 have key:∀t∈[22,22],Tryz.prog.wantsStandIn t=false:=by
  intro t ht
  simp only[List.mem_cons,List.not_mem_nil,or_false]at ht
  rcases ht with rfl|rfl
  ·exact(show Tryz.prog.wantsStandIn 22=false by kernel_rfl)
  ·exact(show Tryz.prog.wantsStandIn 22=false by kernel_rfl)
 exact key t (by simpa using hm)
theorem goes:false=Rows.stageMirrorsRow.goesBy Tryz.pinned.checked.prog:=by kernel_rfl
theorem proved:Rows.StageMirrorsCardSaid:=
 Claim7.holds_tied_plain_at .later [] _ _ _ _ said (fun _ h=>by cases h) (by kernel_rfl) (fun _ h=>by cases h) stageMirrors_row_tie rfl ⟨rfl,rfl⟩ Go.Sy.NH rfl plain goes
end Go.Proofs.YtdjocfajcbhmgaaGreatDoor.stageMirrors
