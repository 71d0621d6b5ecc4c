/- For every input the Go function UnderDropped returns true and its arguments read afterwards as they read before. No condition. -/
import Derived.Test.YtdjocfajcbhmgaaGreatDoorCards
import Derived.Test.YtdjocfajcbhmgaaGreatDoorTie
import Derived.Deep.DeepHandedRow
import Derived.SevenTiedAt
import Derived.Test.YtdjocfajcbhmgaaGreatDoorCg
import Derived.Test.YtdjocfajcbhmgaaGreatDoorTop
import Derived.Test.YtdjocfajcbhmgaaGreatDoorJfa
import Derived.WalkKit
import Derived.SizedLaws
import Derived.ProofKit
import Derived.OpenShut
import Derived.ShutString
import Derived.ChangeOld
import Derived.Below
namespace Go.Proofs.YtdjocfajcbhmgaaGreatDoor.underDropped
open Go.ChangeShapes Go.WideShapes Go.ChangeAt Go.RowKit
open Go.ChangeMaps (open_string shut_string)
set_option linter.unusedVariables false
theorem own:ownKnob Tryz.prog.godebug=none:=by kernel_rfl
theorem laidOut:laidOutB Tryz.prog=true:=by kernel_rfl
def QN(k:IntKind)(w:World)(a:Option Addr)(len cap:Nat)(zs:List Int):Prop:=
 (a=none∧len=0∧cap=0∧zs=[])∨
 ∃x,a=some x∧len≤cap∧cap≤maxLen∧zs.length=cap∧(∀i,i < zs.length→w.cell? (x.add i)=some (.int k (zs.getD i 0)))∧(∀n∈zs,(Lit.int k n).wf=true)∧zs.length * 8≤140737488351232
theorem walk(a0:Option Addr)(E3 Mo:Nat)(z0:List Int)(a1:Int)(a2:Int)(w:World)(w0:QN .i64 w a0 E3 Mo z0)(w1:(Lit.int .i64 a1).wf=true)(w2:(Lit.int .i64 a2).wf=true):
 Calls Tryz.prog 6 #[.slice a0 E3 Mo,.int .i64 a1,.int .i64 a2] w fun e w'=>e=.returned (.bool true)∧Below w.heap.size w w':=by
 rcases w0 with⟨rfl,rfl,rfl,rfl⟩|⟨x0,rfl,l0,m0,YI,c0,_,s0⟩
 ·exact(Go.Sy.ov [] a1 a2 (by simp)).top (cts:=[Go.Sy.ch [],.int .i64 a1,.int .i64 a2]) (Go.Sy.pA Go.Sy.NL (Go.Sy.pA (.int _ _) (Go.Sy.pA (.int _ _) Go.Sy.J8)))
 ·exact(Go.Sy.ov (z0.take E3) a1 a2 (by simp;omega)).top (cts:=[Go.Sy.ch (z0.take E3),.int .i64 a1,.int .i64 a2]) (Go.Sy.pA (Go.Sy.J2 l0 m0 YI c0) (Go.Sy.pA (.int _ _) (Go.Sy.pA (.int _ _) Go.Sy.J8)))
noncomputable def td(os:Os):World:=
 {World.holding Tryz.prog os ⟨#[],#[],[]⟩with heap:=((((World.holding Tryz.prog os ⟨#[],#[],[]⟩).heap.modify 0 fun
  |.cells _ t frozen=>.cells #[.int .u64 1,.int .u64 10,.int .u64 100,.int .u64 1000,.int .u64 10000,.int .u64 100000,.int .u64 1000000,.int .u64 10000000,.int .u64 100000000,.int .u64 1000000000,.int .u64 10000000000,.int .u64 100000000000,.int .u64 1000000000000,.int .u64 10000000000000,.int .u64 100000000000000,.int .u64 1000000000000000,.int .u64 10000000000000000,.int .u64 100000000000000000,.int .u64 1000000000000000000,.int .u64 10000000000000000000] t frozen
  |o=>o).modify 2 fun
  |.cells _ t frozen=>.cells #[.int .u8 0,.int .u8 1,.int .u8 28,.int .u8 2,.int .u8 29,.int .u8 14,.int .u8 24,.int .u8 3,.int .u8 30,.int .u8 22,.int .u8 20,.int .u8 15,.int .u8 25,.int .u8 17,.int .u8 4,.int .u8 8,.int .u8 31,.int .u8 27,.int .u8 13,.int .u8 23,.int .u8 21,.int .u8 19,.int .u8 16,.int .u8 7,.int .u8 26,.int .u8 12,.int .u8 18,.int .u8 6,.int .u8 11,.int .u8 5,.int .u8 10,.int .u8 9] t frozen
  |o=>o).modify 3 fun
  |.cells _ t frozen=>.cells #[.int .u8 0,.int .u8 1,.int .u8 56,.int .u8 2,.int .u8 57,.int .u8 49,.int .u8 28,.int .u8 3,.int .u8 61,.int .u8 58,.int .u8 42,.int .u8 50,.int .u8 38,.int .u8 29,.int .u8 17,.int .u8 4,.int .u8 62,.int .u8 47,.int .u8 59,.int .u8 36,.int .u8 45,.int .u8 43,.int .u8 51,.int .u8 22,.int .u8 53,.int .u8 39,.int .u8 33,.int .u8 30,.int .u8 24,.int .u8 18,.int .u8 12,.int .u8 5,.int .u8 63,.int .u8 55,.int .u8 48,.int .u8 27,.int .u8 60,.int .u8 41,.int .u8 37,.int .u8 16,.int .u8 46,.int .u8 35,.int .u8 44,.int .u8 21,.int .u8 52,.int .u8 32,.int .u8 23,.int .u8 11,.int .u8 54,.int .u8 26,.int .u8 40,.int .u8 15,.int .u8 34,.int .u8 20,.int .u8 31,.int .u8 10,.int .u8 25,.int .u8 14,.int .u8 19,.int .u8 9,.int .u8 13,.int .u8 8,.int .u8 7,.int .u8 6] t frozen
  |o=>o)}
theorem KW(os:Os):laidMet Tryz.prog Rows.underDroppedRow.laid ((td os).forCall (fun _ _=>0) ⟨#[],#[.slice none 0 0,.int .i64 0,.int .i64 0],[]⟩).memory:=
 laidMet_of_run' 8 (by kernel_rfl) (by kernel_rfl)
theorem reads(os:Os){H:Type}(enc:TypeId×Value→H):∃places,DataW.whole enc Tryz.prog ((td os).forCall (fun _ _=>0) ⟨#[],#[.slice none 0 0,.int .i64 0,.int .i64 0],[]⟩).memory Tryz.f6.params.toList Rows.underDroppedSpec.vars false ((#[.slice none 0 0,.int .i64 0,.int .i64 0]:Array Value).toList) 8=some ([.nil,.lit (.int .i64 0),.lit (.int .i64 0)],[],places):=
 ⟨[],by kernel_rfl⟩
set_option maxRecDepth 100000 in
theorem Mj(H:Type)(enc:TypeId×Value→H)(W:World)(base:Nat)(args:Array Value)(ds gs:List (DataW H))(before:List MemPlace)
 (Qe:∀(j:Nat) t v,Tryz.f6.params[j]? =some t→args[j]? =some v→Value.okWide Tryz.prog W .any base t v)
 (hW:DataW.Whole enc Tryz.prog Tryz.f6.params.toList Rows.underDroppedSpec.vars false W args.toList ds gs before)
 (Ww:(DataW.weightsEach Tryz.prog (Tryz.f6.params.toList++Rows.underDroppedSpec.plain.varTypes Tryz.prog) (ds++gs)).all (·≤reachBytes)=true):
 Calls Tryz.prog 6 args W fun e W'=>∃v,e=.returned v∧Rows.underDroppedSpec.post enc Tryz.prog Tryz.f6 false true false false W args v W':=by
 have uS:∀(j:Nat) t v,Tryz.f6.params[j]? =some t→args[j]? =some v→Value.okWide Tryz.prog W .any base t v:=Qe
 have ZW:=hW
 obtain⟨p,q,Yz,hV,rfl,hfz,mB⟩:=hW
 have hA:DataW.TrodAll enc Tryz.prog W 0 (fun _=>true) true Tryz.f6.params.toList args.toList ds p:=Yz
 have cM:(DataW.weightsEach Tryz.prog (Tryz.f6.params.toList++Rows.underDroppedSpec.plain.varTypes Tryz.prog) (ds++gs)).all (·≤reachBytes)=true:=Ww
 rw[Tryz.params6]at hA uS cM
 obtain⟨v0,vs0,d0,ds0,p0,q0,cE,rfl,rfl,h0,r0⟩:=trodAll_cons hA
 obtain⟨v1,vs1,d1,ds1,p1,q1,rfl,rfl,rfl,h1,r1⟩:=trodAll_cons r0
 obtain⟨v2,vs2,d2,ds2,p2,q2,rfl,rfl,rfl,h2,r2⟩:=trodAll_cons r1
 obtain⟨rfl,rfl,rfl⟩:=trodAll_nil r2
 obtain rfl:args=#[v0,v1,v2]:=by cases args;simp_all
 obtain⟨rfl,rfl⟩:=trodVars_none hV
 obtain⟨a0,E3,Mo,rfl⟩:=okWide_slice Tryz.underlying22 (uS 0 22 v0 rfl rfl)
 have k0:=h0
 have YP:∀x∈p0,x.block < W.heap.size:=by obtain⟨m,hm⟩:=k0;exact DataW.trod_lt m _ _ _ hm
 obtain⟨z0,w0⟩:∃zs,QN .i64 W a0 E3 Mo zs:=by
  obtain⟨fuel,hf⟩:=h0
  rcases open_ints Tryz.underlying22 Tryz.underlying3 (by kernel_rfl) hf with⟨Bc,_⟩|⟨x,l,c,zs,Bc,_,hl,hm,hz,hx,sc,Y1⟩
  ·simp[Value.cells]at Bc
   obtain⟨rfl,rfl,rfl⟩:=Bc
   exact⟨[],.inl ⟨rfl,rfl,rfl,rfl⟩⟩
  ·simp[Value.cells]at Bc
   obtain⟨rfl,rfl,rfl⟩:=Bc
   have Xi:=congrArg Prod.fst hx
   simp only at Xi
   have hs:=sized_slice cM (j:=0) (t:=22) (e:=3) rfl (by first|exact congrArg some Xi|rw[Xi];rfl) Tryz.underlying22
   rw[show Tryz.prog.bytesOf 3=8 by kernel_rfl]at hs
   have hs:zs.length * 8≤140737488351232:=by
    simp only[lits,List.length_map,List.length_take,List.length_drop,reachBytes]at hs
    omega
   exact⟨zs,.inr ⟨_,rfl,hl,hm,by simpa using hz,sc,Y1,hs⟩⟩
 obtain⟨a1,rfl,rfl,rfl,w1⟩:=open_int Tryz.underlying3 (uS 1 3 v1 rfl rfl) h1
 obtain⟨a2,rfl,rfl,rfl,w2⟩:=open_int Tryz.underlying3 (uS 2 3 v2 rfl rfl) h2
 clear Yz Qe
 refine(walk a0 E3 Mo z0 a1 a2 W w0 w1 w2).mono fun e W' ⟨he,YF⟩=>?_
 subst he
 exact⟨_,rfl,_,_,_,[],_,[],ZW,trodAll_mk1 (shut_bool Tryz.underlying4 _),(trodAll_cons_mk (Below.trod laidOut (by kernel_rfl) (of_decide_eq_true (by kernel_rfl)) k0 YF YP) (trodAll_cons_mk (shut_int Tryz.underlying3 w1) (trodAll_cons_mk (shut_int Tryz.underlying3 w2) trodAll_mk0))),rfl,YF.frame _,fun h=>by cases h⟩
set_option maxRecDepth 100000 in
theorem lifted(os:Os)(started:os.Started)(H:Type)(enc:TypeId×Value→H)(F:Stop.Interp):
 ReturnsInHanded {} Tryz.checked os 6 .any ((OpenSpec.ofChange Rows.underDroppedSpec).preRow enc Tryz.prog Tryz.f6 Rows.underDroppedRow.domain false Rows.underDroppedRow.laid) (((OpenSpec.ofChange Rows.underDroppedSpec).at F).post enc Tryz.prog Tryz.f6 false true false false):=by
 obtain⟨places,hx⟩:=reads os enc
 refine returnsInHanded_of_row (C:=Tryz.checked) (s:=OpenSpec.ofChange Rows.underDroppedSpec) own started (by kernel_rfl) Tryz.func6
  (witness_row_at (enc:=enc) (C:=Tryz.checked) false (td os) #[.slice none 0 0,.int .i64 0,.int .i64 0] rfl (by kernel_rfl) (by kernel_rfl) (by kernel_rfl)
    (OpenSpec.preRow_of_cond 8 hx (by kernel_rfl) (fun k hk=>by cases hk) (by kernel_rfl) (KW os))) ?_
 intro W base args ds gs before uS hW _ _ cM _ _ _
 exact Mj H enc W base args ds gs before uS hW cM
theorem closed:joinedFacts Tryz.pinned.checked.prog 6 Tryz.f6 (OpenSpec.ofChange Rows.underDroppedSpec).bare Rows.underDroppedRow=true:=by
 unfold joinedFacts
 refine Bool.and_eq_true_iff.2 ⟨?_,by kernel_rfl⟩
 refine Bool.and_eq_true_iff.2 ⟨?_,by kernel_rfl⟩
 refine Bool.and_eq_true_iff.2 ⟨?_,by kernel_rfl⟩
 refine Bool.and_eq_true_iff.2 ⟨?_,by kernel_rfl⟩
 refine Bool.and_eq_true_iff.2 ⟨?_,Go.Sy.Rz⟩
 refine Bool.and_eq_true_iff.2 ⟨?_,Go.Sy.RB⟩
 refine Bool.and_eq_true_iff.2 ⟨?_,Go.Sy.Ou⟩
 refine Bool.and_eq_true_iff.2 ⟨?_,Go.Sy.Ot⟩
 kernel_rfl
theorem said:Rows.UnderDroppedSaid:=
 OpenClaim.holds_of_cond 6 Tryz.f6 rfl rfl rfl rfl rfl rfl rfl ⟨rfl,rfl,rfl,rfl,rfl⟩ rfl rfl rfl rfl rfl (by kernel_rfl) Tryz.func6 closed
  (of_decide_eq_true (by kernel_rfl)) (by unfold Func.isWrapper;first|(rw[if_pos (by decide+kernel)];kernel_rfl)|(rw[if_neg (by decide+kernel)];exact⟨rfl,rfl⟩))
  (fun os started H enc _ F=>by rw[OpenClaim.pre_eq_preRow];exact lifted os started H enc F)
theorem plain(f:FuncId)(fn:Func)(hf:Tryz.pinned.checked.prog.funcNamed "repartee/reparteelaw11.UnderDropped"=some f)(ZB:Tryz.pinned.checked.prog.funcs[f]? =some fn):
 false=Tryz.pinned.checked.prog.looks []∧∀(j:Nat) t,fn.params[j]? =some t→Tryz.pinned.checked.prog.wantsStandIn t=false:=by
 obtain rfl:f=6:=Option.some.inj ((show Tryz.prog.funcNamed "repartee/reparteelaw11.UnderDropped"=some 6 by kernel_rfl).symm.trans hf) |>.symm
 obtain rfl:fn=Tryz.f6:=(Option.some.inj (Tryz.func6.symm.trans ZB)).symm
 refine⟨by kernel_rfl,fun j t ht=>?_⟩
 rw[Tryz.params6]at ht
 have hm:=Array.mem_of_getElem? ht
 have key:∀t∈[22,3,3],Tryz.prog.wantsStandIn t=false:=by
  intro t ht
  simp only[List.mem_cons,List.not_mem_nil,or_false]at ht
  rcases ht with rfl|rfl|rfl
  ·exact(show Tryz.prog.wantsStandIn 22=false by kernel_rfl)
  ·exact(show Tryz.prog.wantsStandIn 3=false by kernel_rfl)
  ·exact(show Tryz.prog.wantsStandIn 3=false by kernel_rfl)
 exact key t (by simpa using hm)
theorem goes:false=Rows.underDroppedRow.goesBy Tryz.pinned.checked.prog:=by kernel_rfl
theorem proved:Rows.UnderDroppedCardSaid:=
 Claim7.holds_tied_plain_at .later [] _ _ _ _ said (fun _ h=>by cases h) (by kernel_rfl) (fun _ h=>by cases h) underDropped_row_tie rfl ⟨rfl,rfl⟩ Go.Sy.RA rfl plain goes
end Go.Proofs.YtdjocfajcbhmgaaGreatDoor.underDropped
