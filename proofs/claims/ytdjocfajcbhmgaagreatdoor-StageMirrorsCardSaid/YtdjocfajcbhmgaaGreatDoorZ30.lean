/- Contracts of layer 13: moves compared, slices.Index, slices.Contains at moves, the law's sameMoves. -/
import Derived.Test.YtdjocfajcbhmgaaGreatDoorGg
import Derived.Laws.StructEq
import Derived.Test.YtdjocfajcbhmgaaGreatDoorZ27
set_option linter.unusedSimpArgs false
set_option linter.unusedVariables false
set_option linter.unusedSectionVars false
namespace Go.Sy
open Go.Proofs
set_option maxRecDepth 100000
attribute [local irreducible] SOps Goes DOps EOps
def Mv.val(m:Mv):Value:=.agg #[.int .i64 m.kind,.int .i64 m.role,.string m.label]
theorem Uh(x y:Mv)(w:World):(Op.equalIn 10000 89 x.val y.val).run Tryz.prog w=.ok (decide (x=y)) w:=by
 have u3:=Tryz.underlying3
 have a3:=Tryz.isAgg3
 have z3:=Tryz.sizeOf3
 have u9:=Tryz.underlying9
 have a9:=Tryz.isAgg9
 have z9:=Tryz.sizeOf9
 have hS:Tryz.prog.underlying 89=some (.struct (Tryz.prog.fieldsOf 89)):=by kernel_rfl
 have hp:Tryz.prog.stoodInHeld 89=false:=by kernel_rfl
 obtain⟨a,b,c⟩:=x
 obtain⟨a',b',c'⟩:=y
 simp only[Mv.val]
 rw[show(10000:Nat)=9999+1 from rfl,run_equalIn_agg w 9999 89 _ _ hS hp]
 simp only[Program.fieldsOf,Tryz.underlying89]
 go_simp
 have key:(c.toList=c'.toList)↔c=c':=by
  rw[ByteArray.toList_eq,ByteArray.toList_eq]
  obtain⟨⟨x⟩⟩:=c
  obtain⟨⟨y⟩⟩:=c'
  simp
 by_cases h1:a=a'<;>by_cases h2:b=b'<;>by_cases h3:c=c'<;>simp[h1,h2,h3,key]
section
variable {C:Ctx} {n:Nat} {tm:TM} {mm:MM} {o:Oper} {d:Nat}
theorem Hy{I:Nat→Prop}{H:Nat→Value}{Z:Nat→Nat}{w:World}{M:Nat→Prop}{v:Value}{m:Mv}(h:cF I H Z w M v (Ag m.cs)):v=m.val:=by
 obtain⟨vs,rfl,hs,hr⟩:=h
 have h0:=hr 0 _ J
 have h1:=hr 1 _ J
 have h2:=hr 2 _ J
 obtain⟨u0,g0,r0⟩:=h0
 obtain⟨u1,g1,r1⟩:=h1
 obtain⟨u2,g2,r2⟩:=h2
 have r0:=a7.cH r0
 have r1:=a7.cH r1
 have r2:=a7.fo r2
 subst r0 r1 r2
 have hs:vs.size=3:=hs
 congr 1
 apply Array.ext
 ·simpa using hs
 ·intro i hi Mq
  have:i=0∨i=1∨i=2:=by omega
  rcases this with rfl|rfl|rfl
  ·rw[bW hi]at g0;injection g0 with g0
  ·rw[bW hi]at g1;injection g1 with g1
  ·rw[bW hi]at g2;injection g2 with g2
theorem zM{p:BinOp}{t':Nat}{x y:Operand}{a b:Mv}(hP:C.P=Tryz.prog)(ho:o.op=.binOp p 89 x y t')(hp:p=.eql∨p=.neq)(hx:dM tm x=some (Ag a.cs))(hy:dM tm y=some (Ag b.cs))(hd:o.dst=some d)(hn:Nat.blt d n=true):
 eO C n o tm mm d (.v (.one (.c (.bool (match p with|.eql=>decide (a=b)|_=>!decide (a=b)))))):=
 eO.val hd hn _ fun H Z A w hm=>by
  have h1:A.eval x=a.val:=Hy (ee hm hx)
  have h2:A.eval y=b.val:=Hy (ee hm hy)
  have hq:Tryz.prog.eqGuardType Tryz.prog.depth 89=false:=by kernel_rfl
  have heq:=Uh a b w
  simp only[Mv.val]at h1 h2 heq
  refine⟨.bool (match p with|.eql=>decide (a=b)|_=>!decide (a=b)),?_,.bool _⟩
  rw[hP]
  rcases hp with rfl|rfl
  ·simp only[execOp,ho,h1,h2,Sem.run_bind,run_eqGuard_agg w _ _ _ _ _ _ hq,Result.andThen_ok,run_eql_struct,heq,Sem.run_pure]
  ·simp only[execOp,ho,h1,h2,Sem.run_bind,run_eqGuard_agg w _ _ _ _ _ _ hq,Result.andThen_ok,run_neq_struct,heq,Sem.run_pure]
end
abbrev ny(l:List Mv):CT:=.slice false 3 (l.map Mv.cs)
set_option maxHeartbeats 4000000 in
theorem Fa(l:List Mv)(m:Mv):dy Tryz.prog 114 [] [C1 (ny l),Ag m.cs] (Rv (.int .i64 (fb (fun x=>decide (m=x)) l))) []:=by
 refine bd (c:=_) Tryz.func114 rfl rfl rfl (by decide) fun w M0 H Z=>?_
 refine gl 0 J fun mT=>?_
 simp only[aw]at mT
 repeat'(first|refine bH J ?_|(refine al ?_;refine aj th J ?_)|(refine au mix J J ?_;refine ak th J ?_)|(refine ao mix J J ?_;refine ay th J ?_)|refine SOps.nil ?_|refine DOps.nil ?_|refine EOps.nil ?_ rfl rfl|((first|refine aq J J ?_ ?_|refine av J J J ?_ ?_|refine aU J ?_ ?_)<;>intro hb<;>(try simp only[aF]at hb)<;>first|(exfalso;omega)|refine aj th J ?_|refine ak th J ?_|skip))
 refine bE (fun k:Nat=>k≤l.length∧∀i (h:i < k) (h':i < l.length),decide (m=l[i])=false)
  (fun k=>[(0,.v (C1 (ny l))),(3,.v (.one (.ptr 3 0))),(7,.v (C1 (.int .i64 (l.length:Int)))),(8,.v (C1 (.int .i64 (k:Int))))])
  (fun _=>[(3,.box [.c (.int .i64 m.kind),.c (.int .i64 m.role),.c (.str m.label)])]) (fun k=>l.length - k) 0 ⟨aM _,fun i h=>by omega⟩
  (fun a w h=>h.sub (by exact⟨⟨_,rfl,.refl _⟩,⟨_,rfl,.refl _⟩,⟨_,rfl,aC (by simp)⟩,⟨_,rfl,aC J⟩,trivial⟩) (by exact⟨⟨_,rfl,.refl _⟩,trivial⟩) J J J) (fun k hk ih=>?_)
 obtain⟨hk,ha⟩:=hk
 by_cases bo:k < l.length
 ·have hx:(l.map Mv.cs)[k]? =some (l[k]).cs:=by simp[bo]
  repeat'(first|refine bH J ?_|(refine al ?_;refine aj th J ?_)|(refine au mix J J ?_;refine ak th J ?_)|(refine ao mix J J ?_;refine ay th J ?_)|refine SOps.nil ?_|refine DOps.nil ?_|refine EOps.nil ?_ rfl rfl|((first|refine aq J J ?_ ?_|refine av J J J ?_ ?_|refine aU J ?_ ?_)<;>intro hb<;>(try simp only[aF]at hb)<;>first|(exfalso;omega)|refine aj th J ?_|refine ak th J ?_|skip)|refine aT th Tryz.func114 (.inr ⟨_,rfl⟩) J J J ?_ rfl|((first|refine fT th J J J J J J J J J k _ J hx ?_|refine mH (zM (a:=m) (b:=l[k]) J J (.inl rfl) J J J J) J ?_);refine ak th J ?_)|(refine bO J J J J J J (by omega) ?_;refine aj th J ?_))
  ·rw[gX bo (fun i h=>ha i h (by omega)) (by simpa using hb)]
   exact .refl _
  ·have cS:=ih (k+1) ⟨bo,fun i h h'=>by
    by_cases kJ:i=k
    ·subst kJ;simpa using hb
    ·exact ha i (by omega) h'⟩ (by omega)
   exact bJ (by exact⟨⟨_,rfl,.refl _⟩,⟨_,rfl,.refl _⟩,⟨_,rfl,.refl _⟩,⟨_,rfl,aC (by omega)⟩,trivial⟩) (by exact⟨⟨_,rfl,.refl _⟩,trivial⟩) J J J cS
 ·have gn:k=l.length:=by omega
  subst gn
  repeat'(first|refine bH J ?_|(refine al ?_;refine aj th J ?_)|(refine au mix J J ?_;refine ak th J ?_)|(refine ao mix J J ?_;refine ay th J ?_)|refine SOps.nil ?_|refine DOps.nil ?_|refine EOps.nil ?_ rfl rfl|((first|refine aq J J ?_ ?_|refine av J J J ?_ ?_|refine aU J ?_ ?_)<;>intro hb<;>(try simp only[aF]at hb)<;>first|(exfalso;omega)|refine aj th J ?_|refine ak th J ?_|skip)|refine aT th Tryz.func114 (.inr ⟨_,rfl⟩) J J J ?_ rfl)
  rw[dv (fun i h=>ha i h h)]
  exact .refl _
theorem yw(l:List Mv)(m:Mv):dy Tryz.prog 70 [] [C1 (ny l),Ag m.cs] (Rv (.bool (decide (m∈l)))) []:=by
 have Il:decide (fb (fun x=>decide (m=x)) l≥0)=decide (m∈l):=by
  cases hi:l.findIdx? fun x=>decide (m=x)with
  |none=>
   rw[show fb (fun x=>decide (m=x)) l=-1 by simp[fb,hi]]
   rw[bL]at hi
   symm;simp;intro hm;have:=hi m hm;simp at this
  |some i=>
   rw[show fb (fun x=>decide (m=x)) l=(i:Int) by simp[fb,hi]]
   rw[bB]at hi
   obtain⟨h1,h2,_⟩:=hi
   have h2:m=l[i]:=by simpa using h2
   symm;simp;rw[h2];exact az h1
 rw[←Il]
 refine bd (c:=_) Tryz.func70 rfl rfl rfl (by decide) fun w M0 H Z=>?_
 repeat'(first|refine bH J ?_|(refine al ?_;refine aj th J ?_)|(refine au mix J J ?_;refine ak th J ?_)|(refine ao mix J J ?_;refine ay th J ?_)|refine SOps.nil ?_|refine DOps.nil ?_|refine EOps.nil ?_ rfl rfl|((first|refine aq J J ?_ ?_|refine av J J J ?_ ?_|refine aU J ?_ ?_)<;>intro hb<;>(try simp only[aF]at hb)<;>first|(exfalso;omega)|refine aj th J ?_|refine ak th J ?_|skip)|refine aT th Tryz.func70 (.inr ⟨_,rfl⟩) J J J ?_ rfl|(refine aS (Fa l m) [] J J J J J J J J J J ?_;refine aj th J ?_))
 all_goals exact .refl _
set_option maxHeartbeats 4000000 in
theorem se(l m:List Mv):dy Tryz.prog 65 [] [C1 (ny l),C1 (ny m)] (Rv (.bool (decide (l=m)))) []:=by
 refine bd (c:=_) Tryz.func65 rfl rfl rfl (by decide) fun w M0 H Z=>?_
 refine gl 0 J fun mT=>?_
 simp only[aw]at mT
 by_cases hlen:l.length=m.length
 ·have Ih:((l.map Mv.cs).length:Int)=((m.map Mv.cs).length:Int):=by simp[hlen]
  repeat'(first|refine bH J ?_|(refine al ?_;refine aj th J ?_)|(refine au mix J J ?_;refine ak th J ?_)|(refine ao mix J J ?_;refine ay th J ?_)|refine SOps.nil ?_|refine DOps.nil ?_|refine EOps.nil ?_ rfl rfl|((first|refine aq J J ?_ ?_|refine av J J J ?_ ?_|refine aU J ?_ ?_)<;>intro hb<;>(try simp only[aF]at hb)<;>first|(exfalso;omega)|refine aj th J ?_|refine ak th J ?_|skip))
  refine bE (fun k:Nat=>k≤l.length∧∀i (h:i < k) (h1:i < l.length) (h2:i < m.length),l[i]=m[i])
   (fun k=>[(0,.v (C1 (ny l))),(0+1,.v (C1 (ny m))),(5,.v (C1 (.int .i64 (k:Int))))])
   (fun _=>[]) (fun k=>l.length - k) 0 ⟨aM _,fun i h=>by omega⟩
   (fun a w h=>h.sub (by exact⟨⟨_,rfl,.refl _⟩,⟨_,rfl,.refl _⟩,⟨_,rfl,aC J⟩,trivial⟩) (by exact trivial) J J J) (fun k hk ih=>?_)
  obtain⟨hk,ha⟩:=hk
  by_cases bo:k < l.length
  ·have mF:k < m.length:=by omega
   have hx:(l.map Mv.cs)[k]? =some (l[k]).cs:=by simp[bo]
   have hy:(m.map Mv.cs)[k]? =some (m[k]).cs:=by simp[mF]
   repeat'(first|refine bH J ?_|(refine al ?_;refine aj th J ?_)|(refine au mix J J ?_;refine ak th J ?_)|(refine ao mix J J ?_;refine ay th J ?_)|refine SOps.nil ?_|refine DOps.nil ?_|refine EOps.nil ?_ rfl rfl|((first|refine aq J J ?_ ?_|refine av J J J ?_ ?_|refine aU J ?_ ?_)<;>intro hb<;>(try simp only[aF]at hb)<;>first|(exfalso;omega)|refine aj th J ?_|refine ak th J ?_|skip)|refine aT th Tryz.func65 (.inr ⟨_,rfl⟩) J J J ?_ rfl|((first|refine fT th J J J J J J J J J k _ J hx ?_|refine fT th J J J J J J J J J k _ J hy ?_|refine mH (zM (a:=l[k]) (b:=m[k]) J J (.inr rfl) J J J J) J ?_);refine ak th J ?_)|(refine bO J J J J J J (by omega) ?_;refine aj th J ?_))
   all_goals first
    |(have cj:l≠m:=fun e=>by subst e;simp at hb;done
      rw[show decide (l=m)=false by simpa using cj];exact .refl _)
    |(have cS:=ih (k+1) ⟨bo,fun i h h1 h2=>by
       by_cases kJ:i=k
       ·subst kJ;simpa using hb
       ·exact ha i (by omega) h1 h2⟩ (by omega)
      exact bJ (by exact⟨⟨_,rfl,.refl _⟩,⟨_,rfl,.refl _⟩,⟨_,rfl,aC (by omega)⟩,trivial⟩) (by exact trivial) J J J cS)
  ·have he:l=m:=mV hlen fun i h1 h2=>ha i (by omega) h1 h2
   repeat'(first|refine bH J ?_|(refine al ?_;refine aj th J ?_)|(refine au mix J J ?_;refine ak th J ?_)|(refine ao mix J J ?_;refine ay th J ?_)|refine SOps.nil ?_|refine DOps.nil ?_|refine EOps.nil ?_ rfl rfl|((first|refine aq J J ?_ ?_|refine av J J J ?_ ?_|refine aU J ?_ ?_)<;>intro hb<;>(try simp only[aF]at hb)<;>first|(exfalso;omega)|refine aj th J ?_|refine ak th J ?_|skip)|refine aT th Tryz.func65 (.inr ⟨_,rfl⟩) J J J ?_ rfl)
   all_goals first|(rw[show decide (l=m)=true by simpa using he];exact .refl _)|(exfalso;simp only[aw]at hb;omega)
 ·have cj:l≠m:=fun e=>hlen (by rw[e])
  rw[show decide (l=m)=false by simpa using cj]
  repeat'(first|refine bH J ?_|(refine al ?_;refine aj th J ?_)|(refine au mix J J ?_;refine ak th J ?_)|(refine ao mix J J ?_;refine ay th J ?_)|refine SOps.nil ?_|refine DOps.nil ?_|refine EOps.nil ?_ rfl rfl|((first|refine aq J J ?_ ?_|refine av J J J ?_ ?_|refine aU J ?_ ?_)<;>intro hb<;>(try simp only[aF]at hb)<;>first|(exfalso;omega)|refine aj th J ?_|refine ak th J ?_|skip)|refine aT th Tryz.func65 (.inr ⟨_,rfl⟩) J J J ?_ rfl)
  all_goals first|exact .refl _|(exfalso;simp only[aw]at hb;omega)
end Go.Sy
set_option linter.unusedSimpArgs false
set_option linter.unusedVariables false
set_option linter.unusedSectionVars false
namespace Go.Sy
open Go.Proofs
set_option maxRecDepth 100000
attribute [local irreducible] SOps Goes DOps EOps FOps
def e9(r:Nat)(label:ByteArray)(at_:List Int)(aP:List Edge):List Int:=aP.foldl (fun l a=>if a.label=label then l.set r a.next else l) at_
theorem pg(r:Nat)(label:ByteArray)(aP:List Edge):∀at_:List Int,(e9 r label at_ aP).length=at_.length:=by
 induction aP with
 |nil=>intro at_;rfl
 |cons a l ih=>
  intro at_
  show(e9 r label _ l).length=_
  rw[ih]
  dsimp only
  split<;>simp
theorem sa{r:Nat}{label:ByteArray}{aP:List Edge}{j:Nat}(hj:j < aP.length)(at_:List Int):
 e9 r label at_ (aP.take (j+1))=if aP[j].label=label then(e9 r label at_ (aP.take j)).set r aP[j].next else e9 r label at_ (aP.take j):=by
 unfold e9
 rw[aD hj,fh];rfl
def wI(b:Bk)(roles:List ByteArray)(s:jd)(r:Nat):Nat:=(iz b roles s r).toNat
def gB(b:Bk)(roles:List ByteArray)(s:jd)(m:Mv):Nat:=
 if m.kind=1 then m.role.toNat * roles.length+wI b roles s m.role.toNat else wI b roles s m.role.toNat * roles.length+m.role.toNat
def ka(b:Bk)(roles:List ByteArray)(s:jd)(m:Mv):List ByteArray:=
 if m.kind=1 then cf s (gB b roles s m)++[m.label]else(cf s (gB b roles s m)).drop 1
def qW(b:Bk)(roles:List ByteArray)(s:jd)(m:Mv):jd:=
 ⟨e9 m.role.toNat m.label s.at_ (cG b s m.role.toNat).aP,s.bY.set (gB b roles s m) (ka b roles s m)⟩
def IT(b:Bk)(roles:List ByteArray)(s:jd)(m:Mv):jd×Int:=
 if fa b roles s=false then(⟨[],[]⟩,1300)else if m∉c9 b roles s then(⟨[],[]⟩,1301)else(qW b roles s m,0)
abbrev PI(r:jd×Int):ST:=.gE [Ag r.1.cs,C1 (.int .i64 r.2)]
structure jo(b:Bk)(roles:List ByteArray)(s:jd)(m:Mv)(r t:Nat):Prop where
 lt:r < roles.length
 MV:t < roles.length
 ne:t≠r
 role:m.role=(r:Int)
 peer:iz b roles s r=(t:Int)
 kind:(m.kind=1∧(cG b s r).kind=1∧(cf s (r * roles.length+t)).length < 64)∨(m.kind=2∧(cG b s r).kind=2∧∃rest,cf s (t * roles.length+r)=m.label::rest)
 arm:∃a∈(cG b s r).aP,a.label=m.label
theorem Ac{b:Bk}{roles:List ByteArray}{s:jd}{m:Mv}{r:Nat}(hr:r < roles.length)(h:m∈ey b roles s r):∃t,jo b roles s m r t:=by
 rcases sj b roles s r with hp|⟨t,ht,cj,hp⟩
 ·simp[ey,hp]at h
 ·have h0:¬((t:Int) < 0):=by omega
  simp only[ey,hp,h0,if_false,cZ]at h
  split at h
  ·rename_i hS
   obtain⟨a,ha,rfl⟩:=aE.1 h
   exact⟨t,hr,ht,cj,rfl,hp,.inl ⟨rfl,hS.1,hS.2⟩,a,ha,rfl⟩
  ·split at h
   ·rename_i hR
    split at h
    ·cases h
    ·rename_i q rest hq
     split at h
     ·rename_i oU
      rw[aH]at h;subst h
      obtain⟨a,ha,Fm⟩:=cu.1 oU
      exact⟨t,hr,ht,cj,rfl,hp,.inr ⟨rfl,hR,rest,hq⟩,a,ha,by simpa using Fm⟩
     ·cases h
   ·cases h
theorem ov{b:Bk}{roles:List ByteArray}{s:jd}{m:Mv}(h:m∈c9 b roles s):fa b roles s=true∧∃r t,jo b roles s m r t:=by
 unfold c9 at h
 split at h
 ·rename_i hM
  refine⟨hM,?_⟩
  unfold di at h
  rw[bt]at h
  obtain⟨r,hr,h⟩:=h
  obtain⟨t,ht⟩:=Ac (cc.1 hr) h
  exact⟨r,t,ht⟩
 ·cases h
theorem rF{b:Bk}{roles:List ByteArray}{s:jd}(h:fa b roles s=true):∀m∈s.bY,m.length≤64:=by
 simp only[fa,ax]at h
 have h7:=h.2.2.2.2.2.2.2
 intro m hm
 have h8:s.bY.any wY=false:=by simpa using h7
 have:=eo.1 h8 m hm
 simp[wY]at this
 omega
theorem HD{b:Bk}{roles:List ByteArray}{s:jd}(h:fa b roles s=true):Jl s:=by
 obtain⟨h1,h2,h3,h4,_⟩:=ki h
 have h5:roles.length * roles.length≤5 * 5:=Nat.mul_le_mul h2 h2
 exact⟨by omega,by omega,fun m hm=>by have:=rF h m hm;omega⟩
theorem Ey{hs:List Value}{ms:List (List ByteArray)}{q:Nat}{h:Value}{m:List ByteArray}(h1:hs[q]? =some h)(h2:ms[q]? =some m):(jj hs ms)[q]? =some (h,rn m):=by
 have:(hs.zip ms)[q]? =some (h,m):=List.getElem?_zip_eq_some.2 ⟨h1,h2⟩
 simp[jj,this]
theorem yY{α β:Type}:∀(l:List α) (r:List β) (q:Nat) (a:α) (b:β),(l.zip r).set q (a,b)=(l.set q a).zip (r.set q b)
 |[],_,q,a,b=>by simp
 |x::l,[],q,a,b=>by cases q<;>simp
 |x::l,y::r,0,a,b=>by simp
 |x::l,y::r,q+1,a,b=>by simp[yY l r q a b]
theorem wB{hs:List Value}{ms:List (List ByteArray)}{q:Nat}(h:Value)(m:List ByteArray):(jj hs ms).set q (h,rn m)=jj (hs.set q h) (ms.set q m):=by
 unfold jj
 rw[←yY,lJ]
theorem wC{hs:List Value}{ms:List (List ByteArray)}(h:hs.length=ms.length):(jj hs ms).map (fun q=>[CT.val q.1])=pX hs:=by
 unfold jj pX
 rw[dA]
 apply mV
 ·simp[h]
 ·intro i h1 h2;simp
theorem wA{hs:List Value}{ms:List (List ByteArray)}(h:hs.length=ms.length):(jj hs ms).map (fun q=>[CT.slice false 1 q.2])=ms.map fun m=>[bh m]:=by
 unfold jj
 rw[dA]
 apply mV
 ·simp[h]
 ·intro i h1 h2;simp
end Go.Sy
