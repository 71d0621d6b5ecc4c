/- Contracts of the reference, bundle Bl1. -/
import Derived.Test.YtdjocfajcbhmgaaGreatDoorSymT
import Derived.Test.YtdjocfajcbhmgaaGreatDoorSy4
import Derived.Test.YtdjocfajcbhmgaaGreatDoorSy1
import Derived.Laws.Strings
import Derived.Sort.Walk0
import Derived.Lib.SlicesCompact
set_option linter.unusedSimpArgs false
set_option linter.unusedVariables false
set_option linter.unusedSectionVars false
namespace Go.Sy
open Go.Proofs
set_option maxRecDepth 100000
structure Edge where
 label:ByteArray
 kind:Int
 at_:Int
 next:Int
abbrev Edge.cs(e:Edge):List CT:=[.str e.label,.int .i64 e.kind,.int .i64 e.at_,.int .i64 e.next]
structure Nd where
 kind:Int
 peer:ByteArray
 aP:List Edge
abbrev qK(l:List Edge):CT:=.slice false 4 (l.map Edge.cs)
abbrev Nd.cs(x:Nd):List CT:=[.int .i64 x.kind,.str x.peer,qK x.aP]
structure Bk where
 nodes:List Nd
 names:List ByteArray
 roots:List Int
abbrev jV(l:List Nd):CT:=.slice false 3 (l.map Nd.cs)
abbrev bh(l:List ByteArray):CT:=.slice false 1 (l.map fun s=>[CT.str s])
abbrev cA(l:List Int):CT:=.slice false 1 (l.map fun r=>[CT.int .i64 r])
abbrev Bk.cs(b:Bk):List CT:=[jV b.nodes,bh b.names,cA b.roots]
abbrev Ag(l:List CT):SV:=.agg (l.map SC.c)
end Go.Sy
namespace Go.Sy
open Go.Proofs
abbrev C1(c:CT):SV:=.one (.c c)
abbrev Rv(c:CT):ST:=.v (.one (.c c))
set_option maxRecDepth 100000
attribute [local irreducible] SOps Goes
def E4(x:Int):Bool:=decide (97≤x)&&decide (x≤122)
def Ls(x:Int):Bool:=decide (48≤x)&&decide (x≤57)
theorem Af(x:Int):dy Tryz.prog 126 [] [C1 (.int .u8 x)] (Rv (.bool (E4 x))) []:=by
 refine bd (c:=_) Tryz.func126 rfl rfl rfl (by decide) fun w M0 H Z=>?_
 repeat'(first|refine DY ?_|(refine al ?_;refine aj th J ?_)|refine SOps.nil ?_|(refine zh J J (fun _=>?_) (fun _=>?_)<;>refine aj th J ?_)|(refine fk th Tryz.func126 (.inr ⟨_,rfl⟩) J J J ⟨?_,rfl⟩))
 all_goals first|(simp_all[dI,E4];done)|(simp_all[dI,E4];omega)
theorem Lr(x:Int):dy Tryz.prog 128 [] [C1 (.int .u8 x)] (Rv (.bool (Ls x))) []:=by
 refine bd (c:=_) Tryz.func128 rfl rfl rfl (by decide) fun w M0 H Z=>?_
 repeat'(first|refine DY ?_|(refine al ?_;refine aj th J ?_)|refine SOps.nil ?_|(refine zh J J (fun _=>?_) (fun _=>?_)<;>refine aj th J ?_)|(refine fk th Tryz.func128 (.inr ⟨_,rfl⟩) J J J ⟨?_,rfl⟩))
 all_goals first|(simp_all[dI,Ls];done)|(simp_all[dI,Ls];omega)
def HK:List ByteArray:=[
 ⟨#[97,110,100]⟩,
 ⟨#[97,115]⟩,
 ⟨#[97,116]⟩,
 ⟨#[98,111,111,108]⟩,
 ⟨#[99,97,108,108]⟩,
 ⟨#[99,104,97,110]⟩,
 ⟨#[100,114,111,112]⟩,
 ⟨#[101,108,115,101]⟩,
 ⟨#[101,109,112,116,121]⟩,
 ⟨#[101,110,100]⟩,
 ⟨#[102,97,105,108]⟩,
 ⟨#[102,97,108,115,101]⟩,
 ⟨#[102,114,111,109]⟩,
 ⟨#[104,101,97,114]⟩,
 ⟨#[105,102]⟩,
 ⟨#[105,110,116]⟩,
 ⟨#[106,111,105,110]⟩,
 ⟨#[108,101,110]⟩,
 ⟨#[108,101,116]⟩,
 ⟨#[108,105,115,116]⟩,
 ⟨#[108,111,99,97,108]⟩,
 ⟨#[108,111,115,116]⟩,
 ⟨#[109,111,100]⟩,
 ⟨#[110,111,116]⟩,
 ⟨#[111,112,101,110]⟩,
 ⟨#[111,114]⟩,
 ⟨#[112,114,105,110,116]⟩,
 ⟨#[112,114,111,99]⟩,
 ⟨#[112,114,111,116,111,99,111,108]⟩,
 ⟨#[112,117,115,104]⟩,
 ⟨#[114,111,108,101,115]⟩,
 ⟨#[115,97,121]⟩,
 ⟨#[115,112,97,119,110]⟩,
 ⟨#[115,116,111,112]⟩,
 ⟨#[116,101,120,116]⟩,
 ⟨#[116,111]⟩,
 ⟨#[116,114,117,101]⟩,
 ⟨#[117,110,105,116]⟩,
 ⟨#[119,105,116,104]⟩
]
def RO(s:ByteArray):Bool:=HK.any fun k=>decide (s=k)
set_option maxHeartbeats 4000000 in
theorem E7(s:ByteArray):dy Tryz.prog 127 [] [C1 (.str s)] (Rv (.bool (RO s))) []:=by
 refine bd (c:=_) Tryz.func127 rfl rfl rfl (by decide) fun w M0 H Z=>?_
 repeat'(first|refine DY ?_|refine D1 ?_|refine xa ?_|refine IB ?_|refine IE J ?_|refine OJ J ?_|refine Li ?_|refine Le ?_|refine Fs ?_|(refine al ?_;refine aj th J ?_)|refine SOps.nil ?_|(refine Rb J (fun _=>?_) (fun _=>?_))|(refine fk th Tryz.func127 (.inr ⟨_,rfl⟩) J J J ⟨?_,rfl⟩)|refine xb J ?_|refine uL J ?_)
 any_goals(rename_i h;subst h;rfl)
 simp[dI,RO,HK, *]
end Go.Sy
namespace Go.Sy
open Go.Proofs
set_option maxRecDepth 100000
attribute [local irreducible] SOps Goes
def sM(c:UInt8):Bool:=E4 (c.toNat:Int)||Ls (c.toNat:Int)
def bZ(s:ByteArray):Bool:=
 match s.data.toList with
 |[]=>false
 |c::r=>decide (r.length < 12)&&(E4 (c.toNat:Int)&&(!RO s&&r.all sM))
theorem Dj(s:ByteArray):s.data.toList.length=s.size:=by simp
theorem uh{s:ByteArray}{c:UInt8}{r:List UInt8}(h:s.data.toList=c::r):
 bZ s=(decide (r.length < 12)&&(E4 (c.toNat:Int)&&(!RO s&&r.all sM))):=by
 unfold bZ;rw[h]
set_option maxHeartbeats 4000000 in
theorem nB(s:ByteArray):dy Tryz.prog 89 [] [C1 (.str s)] (Rv (.bool (bZ s))) []:=by
 have c8:=Dj s
 cases hl:s.data.toList with
 |nil=>
  have h0:s.size=0:=by rw[←c8,hl];rfl
  have hn:bZ s=false:=by unfold bZ;rw[hl]
  refine bd (c:=_) Tryz.func89 rfl rfl rfl (by decide) fun w M0 H Z=>?_
  repeat'(first|refine bH J ?_|(refine al ?_;refine aj th J ?_)|(refine au mix J J ?_;refine ak th J ?_)|(refine ao mix J J ?_;refine ay th J ?_)|refine SOps.nil ?_|refine DOps.nil ?_|refine EOps.nil ?_ rfl rfl|((first|refine aq J J ?_ ?_|refine av J J J ?_ ?_|refine aU J ?_ ?_)<;>intro hb<;>(try simp only[aF]at hb)<;>first|(exfalso;omega)|refine aj th J ?_|refine ak th J ?_|skip)|refine fk th Tryz.func89 (.inr ⟨_,rfl⟩) J J J ⟨?_,rfl⟩)
  ·simp[dI,hn]
  all_goals(exfalso;omega)
 |cons c r=>
  have hr:r.length+1=s.size:=by rw[←c8,hl];rfl
  have hn:=uh hl
  have hc:s.data.toList[0]? =some c:=by rw[hl];rfl
  refine bd (c:=_) Tryz.func89 rfl rfl rfl (by decide) fun w M0 H Z=>?_
  repeat'(first|refine bH J ?_|(refine al ?_;refine aj th J ?_)|(refine au mix J J ?_;refine ak th J ?_)|(refine ao mix J J ?_;refine ay th J ?_)|refine SOps.nil ?_|refine DOps.nil ?_|refine EOps.nil ?_ rfl rfl|((first|refine aq J J ?_ ?_|refine av J J J ?_ ?_|refine aU J ?_ ?_)<;>intro hb<;>(try simp only[aF]at hb)<;>first|(exfalso;omega)|refine aj th J ?_|refine ak th J ?_|skip)|refine fk th Tryz.func89 (.inr ⟨_,rfl⟩) J J J ⟨?_,rfl⟩|((first|refine L2 th J J J J J J J 0 c J hc ?_|refine aS (Af _) [] J J J J J J J J J J ?_|refine aS (E7 _) [] J J J J J J J J J J ?_);refine aj th J ?_))
  ·simp[dI,hn,show ¬r.length < 12 by omega]
  ·simp[dI,hn,hb]
  ·simp[dI,hn,hb]
  ·rename_i FX yP
   refine bE (fun k:Nat=>k≤r.length∧(r.take k).all sM=true) (fun k=>[(0,.v (C1 (.str s))),(3,.v (C1 (.int .i64 (k+1:Int))))]) (fun _=>[]) (fun k=>r.length - k) 0 ⟨aM _,rfl⟩
    (fun a w h=>h.sub (by exact⟨⟨_,rfl,.refl _⟩,⟨_,rfl,aC J⟩,trivial⟩) (by exact trivial) J J J) (fun k hk ih=>?_)
   obtain⟨hk,b7⟩:=hk
   by_cases bo:k < r.length
   ·have hx:s.data.toList[k+1]? =some r[k]:=by rw[hl];simp[bo]
    have H6:(r.take (k+1)).all sM=sM r[k]:=by
     rw[aD bo,fl,b7];simp
    repeat'(first|refine bH J ?_|(refine al ?_;refine aj th J ?_)|(refine au mix J J ?_;refine ak th J ?_)|(refine ao mix J J ?_;refine ay th J ?_)|refine SOps.nil ?_|refine DOps.nil ?_|refine EOps.nil ?_ rfl rfl|((first|refine aq J J ?_ ?_|refine av J J J ?_ ?_|refine aU J ?_ ?_)<;>intro hb<;>(try simp only[aF]at hb)<;>first|(exfalso;omega)|refine aj th J ?_|refine ak th J ?_|skip)|refine fk th Tryz.func89 (.inr ⟨_,rfl⟩) J J J ⟨?_,rfl⟩|((first|refine L2 th J J J J J J J (k+1) r[k] J hx ?_|refine aS (Af _) [] J J J J J J J J J J ?_|refine aS (Lr _) [] J J J J J J J J J J ?_|refine bO J J J J J J (by omega) ?_);refine aj th J ?_))
    ·have:r.all sM=false:=by
      rw[dH]
      exact⟨r[k],az bo,by simp[sM, *]⟩
     simp[dI,hn,this]
    ·exact bJ (by exact⟨⟨_,rfl,.refl _⟩,⟨_,rfl,aC (by omega)⟩,trivial⟩) (by exact trivial) J J J (ih (k+1) ⟨bo,by rw[H6];simp[sM, *]⟩ (by omega))
    ·exact bJ (by exact⟨⟨_,rfl,.refl _⟩,⟨_,rfl,aC (by omega)⟩,trivial⟩) (by exact trivial) J J J (ih (k+1) ⟨bo,by rw[H6];simp[sM, *]⟩ (by omega))
   ·have gn:k=r.length:=by omega
    subst gn
    rw[bC]at b7
    repeat'(first|refine bH J ?_|(refine al ?_;refine aj th J ?_)|(refine au mix J J ?_;refine ak th J ?_)|(refine ao mix J J ?_;refine ay th J ?_)|refine SOps.nil ?_|refine DOps.nil ?_|refine EOps.nil ?_ rfl rfl|((first|refine aq J J ?_ ?_|refine av J J J ?_ ?_|refine aU J ?_ ?_)<;>intro hb<;>(try simp only[aF]at hb)<;>first|(exfalso;omega)|refine aj th J ?_|refine ak th J ?_|skip)|refine fk th Tryz.func89 (.inr ⟨_,rfl⟩) J J J ⟨?_,rfl⟩)
    ·have:r.length < 12:=by omega
     simp[dI,hn,this,b7,yP, *]
end Go.Sy
namespace Go.Sy
structure bM where
 label:ByteArray
 kind:Int
 name:ByteArray
 next:Int
deriving DecidableEq
abbrev bM.cs(a:bM):List CT:=[.str a.label,.int .i64 a.kind,.str a.name,.int .i64 a.next]
abbrev kc(l:List bM):CT:=.slice false 4 (l.map bM.cs)
structure fe where
 kind:Int
 peer:ByteArray
 aP:List bM
deriving DecidableEq
abbrev fe.cs(t:fe):List CT:=[.int .i64 t.kind,.str t.peer,kc t.aP]
structure Loc where
 name:ByteArray
 turns:List fe
abbrev gi(l:List fe):CT:=.slice false 3 (l.map fe.cs)
abbrev Loc.cs(l:Loc):List CT:=[.str l.name,gi l.turns]
structure pL where
 from_:ByteArray
 to:ByteArray
 aP:List bM
deriving DecidableEq
abbrev pL.cs(x:pL):List CT:=[.str x.from_,.str x.to,kc x.aP]
structure dr where
 name:ByteArray
 roles:List ByteArray
 points:List pL
abbrev s3(l:List pL):CT:=.slice false 3 (l.map pL.cs)
abbrev dr.cs(p:dr):List CT:=[.str p.name,bh p.roles,s3 p.points]
def CO:List UInt8→Option (List UInt8×List UInt8)
 |[]=>none
 |c::r=>if c=46 then some ([],r)else(CO r).map fun p=>(c::p.1,p.2)
def y1(s:ByteArray):Bool:=match CO s.data.toList with
 |none=>bZ s
 |some (a,b)=>bZ ⟨a.toArray⟩&&bZ ⟨b.toArray⟩
def uV(kind:Int)(name:ByteArray):Bool:=if kind=5 then y1 name else decide (0≤kind)&&(decide (kind < 5)&&decide (name=⟨#[]⟩))
def nX(n:Int)(a:bM):Bool:=bZ a.label&&(uV a.kind a.name&&(decide (0≤a.next)&&decide (a.next < n)))
def eW(n:Int)(l:List bM):Bool:=decide (1≤l.length)&&(decide (l.length≤6)&&(l.all (nX n)&&decide ((l.map bM.label).Nodup)))
def gd(n:Int)(t:fe):Bool:=
 if t.kind=0 then decide (t.peer=⟨#[]⟩)&&t.aP.isEmpty else if t.kind=1∨t.kind=2 then bZ t.peer&&eW n t.aP else false
def c7(l:Loc):Bool:=decide (1≤l.turns.length)&&(decide (l.turns.length≤40)&&l.turns.all (gd l.turns.length))
def sP(a:bM):List bM→List bM
 |[]=>[a]
 |b::l=>if gL a.label b.label then a::b::l else b::sP a l
def fC(l:List bM):List bM:=l.foldl (fun out a=>sP a out) []
abbrev pQ:=List (List bM)
def cP(g:pQ)(x:Int):List bM:=g.getD x.toNat []
def bS(out:List Int):List bM→List Int
 |[]=>out
 |a::l=>bS (if a.next∈out then out else out++[a.next]) l
def jE(g:pQ):Nat→Nat→List Int→List Int
 |0,_,out=>out
 |f+1,i,out=>match out[i]? with
  |none=>out
  |some x=>jE g f (i+1) (bS out (fC (cP g x)))
def a8(g:pQ):List Int:=jE g (g.length+1) 0 [0]
def Loc.g(l:Loc):pQ:=l.turns.map fe.aP
def ly(row:List Int)(l:List bM):List bM:=(fC l).map fun a=>{a with next:=((row.idxOf a.next:Nat):Int)}
def mP:fe:=⟨0,⟨#[]⟩,[]⟩
def bn(l:Loc)(x:Int):fe:=l.turns.getD x.toNat mP
def bj(l:Loc):Loc:=⟨l.name,(a8 l.g).map fun x=>⟨(bn l x).kind,(bn l x).peer,ly (a8 l.g) (bn l x).aP⟩⟩
def gN(g:pQ):Int→List ByteArray→Option Int
 |x,[]=>some x
 |x,s::l=>match(cP g x).find? fun a=>decide (a.label=s)with
  |none=>none
  |some a=>gN g a.next l
def rm(φ:Int→Int)(a:bM):bM:={a with next:=φ a.next}
theorem jD:∀(l:List bM) (out:List Int),∃r,bS out l=out++r
 |[],out=>⟨[],by simp[bS]⟩
 |a::l,out=>by
  obtain⟨r,hr⟩:=jD l (if a.next∈out then out else out++[a.next])
  rw[bS,hr]
  split
  ·exact⟨r,rfl⟩
  ·exact⟨a.next::r,by simp⟩
theorem jC:∀(l:List bM) (out:List Int) (x:Int),x∈bS out l↔x∈out∨∃a∈l,a.next=x
 |[],out,x=>by simp[bS]
 |a::l,out,x=>by
  rw[bS,jC l]
  by_cases h:a.next∈out
  ·rw[if_pos h]
   constructor
   ·rintro(h1|⟨b,hb,e⟩)
    ·exact .inl h1
    ·exact .inr ⟨b,ab _ hb,e⟩
   ·rintro(h1|⟨b,hb,e⟩)
    ·exact .inl h1
    ·rcases ae.1 hb with rfl|hb
     ·exact .inl (e▸h)
     ·exact .inr ⟨b,hb,e⟩
  ·rw[if_neg h]
   simp only[aQ,ae,List.not_mem_nil,or_false,exists_eq_or_imp]
   constructor
   ·rintro((h1|h1)|h1)
    ·exact .inl h1
    ·exact .inr (.inl h1.symm)
    ·exact .inr (.inr h1)
   ·rintro(h1|h1|h1)
    ·exact .inl (.inl h1)
    ·exact .inl (.inr h1.symm)
    ·exact .inr h1
theorem oI(g:pQ):∀(f i:Nat) (out:List Int),∃r,jE g f i out=out++r
 |0,_,out=>⟨[],by simp[jE]⟩
 |f+1,i,out=>by
  rw[jE]
  cases out[i]? with
  |none=>exact⟨[],by simp⟩
  |some x=>
   obtain⟨r,hr⟩:=jD (fC (cP g x)) out
   obtain⟨q,hq⟩:=oI g f (i+1) (bS out (fC (cP g x)))
   exact⟨r++q,by simp only;rw[hq,hr,br]⟩
theorem rY{φ:Int→Int}:∀(l:List bM) (out:List Int),(∀x∈bS out l,∀y∈bS out l,φ x=φ y→x=y)→bS (out.map φ) (l.map (rm φ))=(bS out l).map φ
 |[],out,_=>rfl
 |a::l,out,h=>by
  rw[bF,bS,bS]
  have eL:(rm φ a).next∈out.map φ↔a.next∈out:=by
   constructor
   ·intro hm
    obtain⟨x,hx,e⟩:=aE.1 hm
    have:x=a.next:=h x ((jC _ _ _).2 (.inl hx)) a.next ((jC _ _ _).2 (.inr ⟨a,ah,rfl⟩)) e
    rw[←this];exact hx
   ·exact fun hm=>aE.2 ⟨a.next,hm,rfl⟩
  by_cases hm:a.next∈out
  ·rw[if_pos (eL.2 hm),if_pos hm]
   exact rY l out (by rw[bS,if_pos hm]at h;exact h)
  ·rw[if_neg (fun e=>hm (eL.1 e)),if_neg hm]
   have:=rY l (out++[a.next]) (by rw[bS,if_neg hm]at h;exact h)
   rwa [a6]at this
theorem yy{g k:pQ}{φ:Int→Int}:∀(f i:Nat) (out:List Int),(∀x∈jE g f i out,∀y∈jE g f i out,φ x=φ y→x=y)→(∀x∈jE g f i out,fC (cP k (φ x))=(fC (cP g x)).map (rm φ))→jE k f i (out.map φ)=(jE g f i out).map φ
 |0,_,_,_,_=>rfl
 |f+1,i,out,h1,h2=>by
  rw[jE,jE,aI]
  cases hx:out[i]? with
  |none=>rfl
  |some x=>
   simp only[iI]
   have hE:jE g (f+1) i out=jE g f (i+1) (bS out (fC (cP g x))):=by rw[jE,hx]
   rw[hE]at h1 h2
   obtain⟨r,hr⟩:=oI g f (i+1) (bS out (fC (cP g x)))
   obtain⟨q,hq⟩:=jD (fC (cP g x)) out
   have dK:∀z∈bS out (fC (cP g x)),z∈jE g f (i+1) (bS out (fC (cP g x))):=fun z hz=>by rw[hr];exact eZ _ hz
   rw[h2 x (dK x (by rw[hq];exact eZ _ (an hx))),rY _ _ fun a ha b hb=>h1 a (dK a ha) b (dK b hb)]
   exact yy f (i+1) _ h1 h2
end Go.Sy
namespace Go.Sy
theorem rI(a:bM):∀l:List bM,(sP a l).Perm (a::l)
 |[]=>.refl _
 |b::l=>by
  rw[sP]
  split
  ·exact .refl _
  ·exact((rI a l).cons b).trans (.swap a b l)
theorem jw(l:List bM):(fC l).Perm l:=by
 have h:∀(l out:List bM),(l.foldl (fun out a=>sP a out) out).Perm (out++l):=by
  intro l
  induction l with
  |nil=>intro out;simp
  |cons a l ih=>
   intro out
   rw[cx]
   refine(ih _).trans (((rI a out).append_right l).trans ?_)
   exact(List.perm_middle (a:=a) (l₁:=out) (l₂:=l)).symm
 have:=h l []
 rw[cw]at this
 exact this
theorem jJ{l:List bM}{a:bM}:a∈fC l↔a∈l:=(jw l).mem_iff
theorem qc(l:List bM):(fC l).length=l.length:=(jw l).length_eq
def n4(l:List bM):Prop:=l.Pairwise fun a b=>gL b.label a.label=false
theorem Ap{a:bM}:∀{l:List bM},(∀b∈l,gL a.label b.label=false)→sP a l=l++[a]
 |[],_=>rfl
 |b::l,h=>by
  rw[sP,if_neg (by rw[h b ah];decide),Ap fun c hc=>h c (ab _ hc)];rfl
theorem Dt{l:List bM}(h:n4 l):fC l=l:=by
 have key:∀(l out:List bM),n4 (out++l)→l.foldl (fun out a=>sP a out) out=out++l:=by
  intro l
  induction l with
  |nil=>intro out _;simp
  |cons a l ih=>
   intro out ho
   have h1:∀b∈out,gL a.label b.label=false:=fun b hb=>(List.pairwise_append.1 ho).2.2 b hb a ah
   rw[cx,Ap h1,ih _ (by simpa using ho)]
   simp
 have:=key l [] (by simpa using h)
 rw[cw]at this
 exact this
theorem Ao(Og:∀s,gL s s=false)(HV:∀{s t u},gL s t=true→gL t u=true→gL s u=true){a:bM}:∀{l:List bM},n4 l→n4 (sP a l)
 |[],_=>by simp[sP,n4]
 |b::l,h=>by
  have has:∀{s t},gL s t=true→gL t s=false:=fun{s t} h1=>by
   cases h2:gL t s with
   |false=>rfl
   |true=>have:=HV h1 h2;rw[Og]at this;cases this
  rw[sP]
  obtain⟨h1,h2⟩:=List.pairwise_cons.1 h
  split
  ·rename_i vN
   refine List.pairwise_cons.2 ⟨fun c hc=>?_,h⟩
   rcases ae.1 hc with rfl|hc
   ·exact has vN
   ·cases h3:gL c.label a.label with
    |false=>rfl
    |true=>have:=HV h3 vN;rw[h1 c hc]at this;cases this
  ·rename_i vN
   refine List.pairwise_cons.2 ⟨fun c hc=>?_,Ao Og HV h2⟩
   rcases(rI a l).mem_iff.1 hc |> ae.1 with rfl|hc
   ·simpa using vN
   ·exact h1 c hc
theorem zp(Og:∀s,gL s s=false)(HV:∀{s t u},gL s t=true→gL t u=true→gL s u=true)(l:List bM):n4 (fC l):=by
 have h:∀(l out:List bM),n4 out→n4 (l.foldl (fun out a=>sP a out) out):=by
  intro l
  induction l with
  |nil=>intro out ho;exact ho
  |cons a l ih=>intro out ho;exact ih _ (Ao Og HV ho)
 exact h l [] (by simp[n4])
def LZ(g:pQ):Prop:=∀x a,a∈cP g x→0≤a.next∧a.next < (g.length:Int)
structure Reached(g:pQ)(out:List Int):Prop where
 nodup:out.Nodup
 range:∀x∈out,0≤x∧x < (g.length:Int)
theorem nV{g:pQ}:∀(l:List bM) {out:List Int},Reached g out→(∀a∈l,0≤a.next∧a.next < (g.length:Int))→Reached g (bS out l)
 |[],_,h,_=>h
 |a::l,out,h,hl=>by
  rw[bS]
  refine nV l ?_ fun b hb=>hl b (ab _ hb)
  split
  ·exact h
  ·rename_i hn
   refine⟨gg.2 ⟨h.nodup,by simp,fun x hx y hy e=>?_⟩,fun x hx=>?_⟩
   ·rw[aH]at hy;rw[e,hy]at hx;exact hn hx
   ·rcases aQ.1 hx with hx|hx
    ·exact h.range x hx
    ·rw[aH]at hx;rw[hx];exact hl a ah
theorem ub:∀(n:Nat) (l:List Nat),l.Nodup→(∀k∈l,k < n)→l.length≤n
 |0,l,_,h=>by
  cases l with
  |nil=>simp
  |cons a l=>exact absurd (h a ah) (by omega)
 |n+1,l,hd,h=>by
  by_cases hm:n∈l
  ·have h1:=ub n (l.erase n) (hd.erase n) fun k hk=>by
    have h2:=h k (List.mem_of_mem_erase hk)
    have h3:k≠n:=fun e=>by subst e;exact(hd.not_mem_erase) hk
    omega
   rw[List.length_erase_of_mem hm]at h1
   omega
  ·have:=ub n l hd fun k hk=>by
    have h2:=h k hk
    have h3:k≠n:=fun e=>hm (e▸hk)
    omega
   omega
theorem Reached.len{g:pQ}{out:List Int}(h:Reached g out):out.length≤g.length:=by
 have h1:(out.map Int.toNat).Nodup:=by
  rw[bA,ff]
  refine List.Pairwise.imp_of_mem (fun{a b} ha hb vN=>?_) (bA.1 h.nodup)
  have:=h.range a ha;have:=h.range b hb
  omega
 have h2:∀k∈out.map Int.toNat,k < g.length:=fun k hk=>by
  obtain⟨x,hx,rfl⟩:=aE.1 hk
  have:=h.range x hx;omega
 simpa using ub g.length _ h1 h2
def qT(g:pQ)(k:Nat)(out:List Int):Prop:=∀j x,j < k→out[j]? =some x→∀a∈cP g x,a.next∈out
theorem Jd{g:pQ}(hg:LZ g):∀(f i:Nat) (out:List Int),Reached g out→qT g i out→i≤out.length→g.length < f+i→Reached g (jE g f i out)∧qT g (jE g f i out).length (jE g f i out)
 |0,i,out,h,_,hi,hf=>by have:=h.len;omega
 |f+1,i,out,h,hc,hi,hf=>by
  rw[jE]
  cases hx:out[i]? with
  |none=>
   have:out.length≤i:=j5.1 hx
   show Reached g out∧qT g out.length out
   exact⟨h,fun j x hj=>hc j x (by omega)⟩
  |some x=>
   simp only
   have bo:=(ai.1 hx).1
   have h1:=nV (fC (cP g x)) h fun a ha=>hg x a (jJ.1 ha)
   obtain⟨r,hr⟩:=jD (fC (cP g x)) out
   refine Jd hg f (i+1) _ h1 (fun j y hj hy a ha=>?_) (by rw[hr,aL];omega) (by omega)
   rw[hr,aG (by omega)]at hy
   rw[jC]
   by_cases jc:j=i
   ·subst jc
    rw[hx]at hy;injection hy with hy;subst hy
    exact .inr ⟨a,jJ.2 ha,rfl⟩
   ·exact .inl (hc j y (by omega) hy a ha)
theorem iP{g:pQ}(hg:LZ g)(h0:0 < g.length):Reached g (a8 g)∧qT g (a8 g).length (a8 g):=
 Jd hg _ 0 [0] ⟨by simp,fun x hx=>by rw[aH]at hx;subst hx;omega⟩ (fun j x hj=>by omega) (by simp) (by omega)
theorem nU{g:pQ}:∀(f i:Nat) (out:List Int),(jE g f i out).length < f+i→∀d,jE g (f+d) i out=jE g f i out
 |0,i,out,h,d=>by
  rw[jE]at h
  have:out[i]? =none:=cR (by omega)
  cases d with
  |zero=>rfl
  |succ d=>simp only[fA,jE,this]
 |f+1,i,out,h,d=>by
  rw[show f+1+d=(f+d)+1 by omega,jE,jE]
  rw[jE]at h
  cases hx:out[i]? with
  |none=>rfl
  |some x=>
   rw[hx]at h
   simp only at h⊢
   exact nU f (i+1) _ (by omega) d
theorem sf(g:pQ):∃r,a8 g=0::r:=by
 obtain⟨r,hr⟩:=oI g (g.length+1) 0 [0]
 exact⟨r,by rw[a8,hr];rfl⟩
end Go.Sy
namespace Go.Sy
section
variable {g:pQ}
def mN(g:pQ):pQ:=(a8 g).map fun x=>ly (a8 g) (cP g x)
def pN(row:List Int)(x:Int):Int:=((row.idxOf x:Nat):Int)
theorem Dy{row:List Int}{x y:Int}(hx:x∈row)(hy:y∈row)(h:pN row x=pN row y):x=y:=by
 have h:row.idxOf x=row.idxOf y:=by unfold pN at h;omega
 have h1:=kU (eS.2 hx)
 have h2:=kU (eS.2 hy)
 rw[←h1,←h2]
 simp only[h]
theorem gV(row:List Int)(l:List bM):ly row l=(fC l).map (rm (pN row)):=rfl
theorem Gj{x:Int}(hx:x∈a8 g):cP (mN g) (pN (a8 g) x)=ly (a8 g) (cP g x):=by
 have bo:=eS.2 hx
 unfold cP pN mN
 rw[cZ,aJ,aI,aa bo,kU bo]
 rfl
theorem zo{φ:Int→Int}{l:List bM}(h:n4 l):n4 (l.map (rm φ)):=by
 unfold n4 at h⊢
 rw[ff]
 exact h
theorem uZ{g:pQ}{f1 f2 i:Nat}{out:List Int}(h1:(jE g f1 i out).length < f1+i)(h2:(jE g f2 i out).length < f2+i):jE g f1 i out=jE g f2 i out:=by
 rcases Nat.le_total f1 f2 with h|h
 ·have:=nU f1 i out h1 (f2 - f1)
  rw[show f1+(f2 - f1)=f2 by omega]at this
  exact this.symm
 ·have:=nU f2 i out h2 (f1 - f2)
  rw[show f2+(f1 - f2)=f1 by omega]at this
  exact this
variable (Og:∀s,gL s s=false) (HV:∀{s t u},gL s t=true→gL t u=true→gL s u=true)
include Og HV
theorem GN(row:List Int)(l:List bM):fC (ly row l)=ly row l:=by
 rw[gV,Dt (zo (zp Og HV l))]
theorem Ex{k:pQ}{φ:Int→Int}(hg:LZ g)(h0:0 < g.length)(P5:φ 0=0)(hi:∀x∈a8 g,∀y∈a8 g,φ x=φ y→x=y)
 (hk:∀x∈a8 g,fC (cP k (φ x))=(fC (cP g x)).map (rm φ))(hl:(a8 g).length≤k.length):a8 k=(a8 g).map φ:=by
 have h1:=yy (k:=k) (g.length+1) 0 [0] hi hk
 have h2:=(iP hg h0).1.len
 rw[bF,gh,P5]at h1
 have h3:(jE k (g.length+1) 0 [0]).length=(a8 g).length:=by rw[h1,aw];rfl
 show jE k (k.length+1) 0 [0]=_
 have h4:(jE k ((a8 g).length+1) 0 [0])=(jE g ((a8 g).length+1) 0 [0]).map φ:=by
  have hs:jE g ((a8 g).length+1) 0 [0]=a8 g:=by
   have key:∀d,jE g ((a8 g).length+1+d) 0 [0]=a8 g→jE g ((a8 g).length+1) 0 [0]=a8 g:=by
    intro d
    induction d with
    |zero=>exact id
    |succ d ih=>
     intro h
     refine ih ?_
     have hle:(jE g ((a8 g).length+1+d) 0 [0]).length≤(a8 g).length:=by
      have Ou:∀(f i:Nat) (out:List Int),(jE g f i out).length≤(jE g (f+1) i out).length:=by
           intro f
           induction f with
           |zero=>intro i out;obtain⟨r,hr⟩:=oI g 1 i out;rw[hr];simp[jE]
           |succ f oZ=>
            intro i out
            rw[jE,jE]
            cases out[i]? with
            |none=>exact aA _
            |some x=>exact oZ _ _
      have:=Ou ((a8 g).length+1+d) 0 [0]
      rw[show(a8 g).length+1+d+1=(a8 g).length+1+(d+1) by omega,h]at this
      exact this
     have:=nU (g:=g) ((a8 g).length+1+d) 0 [0] (by omega) 1
     rw[←this,show(a8 g).length+1+d+1=(a8 g).length+1+(d+1) by omega,h]
   exact key (g.length - (a8 g).length) (by rw[show(a8 g).length+1+(g.length - (a8 g).length)=g.length+1 by omega];rfl)
  have:=yy (k:=k) ((a8 g).length+1) 0 [0] (by rw[hs];exact hi) (by rw[hs];exact hk)
  rwa [bF,gh,P5]at this
 have SZ:(jE k ((a8 g).length+1) 0 [0]).length=(a8 g).length:=by
  rw[uZ (f2:=g.length+1) ?_ ?_]
  ·exact h3
  ·have:=oI k ((a8 g).length+1) 0 [0]
   have h5:=congrArg List.length h4
   rw[aw]at h5
   have h6:(jE g ((a8 g).length+1) 0 [0]).length≤(a8 g).length:=by
    have o4:∀(f d i:Nat) (out:List Int),(jE g f i out).length≤(jE g (f+d) i out).length:=by
     intro f
     induction f with
     |zero=>intro d i out;obtain⟨r,hr⟩:=oI g d i out;rw[fA,hr];simp[jE]
     |succ f ih=>
      intro d i out
      rw[show f+1+d=(f+d)+1 by omega,jE,jE]
      cases out[i]? with
      |none=>exact aA _
      |some x=>exact ih d _ _
    have:=o4 ((a8 g).length+1) (g.length - (a8 g).length) 0 [0]
    rw[show(a8 g).length+1+(g.length - (a8 g).length)=g.length+1 by omega]at this
    exact this
   omega
  ·rw[h3];omega
 have h7:=nU ((a8 g).length+1) 0 [0] (g:=k) (by omega) (k.length - (a8 g).length)
 rw[show(a8 g).length+1+(k.length - (a8 g).length)=k.length+1 by omega]at h7
 rw[h7,uZ (f2:=g.length+1) (by omega) (by rw[h3];omega),h1]
 rfl
end
end Go.Sy
namespace Go.Sy
theorem CV:∀l:List UInt8,Op.bytesLess l l=false
 |[]=>rfl
 |a::l=>by simp[Op.bytesLess,CV l]
theorem nT:∀{x y z:List UInt8},Op.bytesLess x y=true→Op.bytesLess y z=true→Op.bytesLess x z=true
 |_,[],_,h,_=>by cases ‹List UInt8›<;>simp[Op.bytesLess]at h
 |_,_::_,[],_,h=>by simp[Op.bytesLess]at h
 |[],_::_,_::_,_,_=>rfl
 |a::x,b::y,c::z,h1,h2=>by
  simp only[Op.bytesLess,iK,decide_eq_true_eq,ax,beq_iff_eq]at h1 h2⊢
  rcases h1 with h1|⟨rfl,h1⟩
  ·rcases h2 with h2|⟨rfl,h2⟩
   ·exact .inl (UInt8.lt_trans h1 h2)
   ·exact .inl h1
  ·rcases h2 with h2|⟨rfl,h2⟩
   ·exact .inl h2
   ·exact .inr ⟨rfl,nT h1 h2⟩
theorem lf(s:ByteArray):gL s s=false:=CV _
theorem gu{a b c:ByteArray}(h1:gL a b=true)(h2:gL b c=true):gL a c=true:=nT h1 h2
end Go.Sy
namespace Go.Sy
theorem M4(l:List bM):n4 (fC l):=zp lf gu l
theorem Ds(row:List Int)(l:List bM):fC (ly row l)=ly row l:=GN lf gu row l
section
variable {g:pQ}
theorem wz(hg:LZ g)(h0:0 < g.length){x:Int}(hx:x∈a8 g):0≤x∧x < (g.length:Int):=(iP hg h0).1.range x hx
theorem pr(hg:LZ g)(h0:0 < g.length){x:Int}(hx:x∈a8 g){a:bM}(ha:a∈cP g x):a.next∈a8 g:=by
 obtain⟨j,hj,rfl⟩:=aB.1 hx
 exact(iP hg h0).2 j _ hj (aa hj) a ha
theorem G3(g:pQ):pN (a8 g) 0=0:=by
 obtain⟨r,hr⟩:=sf g
 simp[pN,hr]
theorem tH(hg:LZ g)(h0:0 < g.length):a8 (mN g)=(a8 g).map (pN (a8 g)):=
 Ex lf gu hg h0 (G3 g) (fun _ hx _ hy h=>Dy hx hy h)
  (fun x hx=>by rw[Gj hx,Ds];rfl) (by simp[mN])
theorem wH(hd:(a8 g).Nodup):(a8 g).map (pN (a8 g))=(List.range (a8 g).length).map Int.ofNat:=by
 apply mV (by simp)
 intro i h1 h2
 simp only[aw]at h1
 simp only[List.getElem_map,pS,pN]
 rw[hd.idxOf_getElem i h1];rfl
theorem Kc(hg:LZ g)(h0:0 < g.length){x:Int}(hx:x∈a8 g):pN (a8 (mN g)) (pN (a8 g) x)=pN (a8 g) x:=by
 rw[tH hg h0,wH (iP hg h0).1.nodup]
 have bo:=eS.2 hx
 unfold pN
 congr 1
 have hd:((List.range (a8 g).length).map Int.ofNat).Nodup:=by
  rw[←wH (iP hg h0).1.nodup,bA,ff]
  exact List.Pairwise.imp_of_mem (fun{a b} ha hb vN e=>vN (Dy ha hb e)) (bA.1 (iP hg h0).1.nodup)
 have h2:(List.range (a8 g).length).length=(a8 g).length:=List.length_range
 have h3:((List.range (a8 g).length).map Int.ofNat)[(a8 g).idxOf x]'(by simpa using bo)=(((a8 g).idxOf x:Nat):Int):=by simp
 rw[←h3]
 exact hd.idxOf_getElem _ _
end
end Go.Sy
namespace Go.Sy
section
variable {l:Loc}
theorem cg(l:Loc)(x:Int):cP l.g x=(bn l x).aP:=by
 unfold cP bn Loc.g
 rw[aJ,aJ,aI]
 cases l.turns[x.toNat]?<;>rfl
theorem ml(h:c7 l=true):∀t∈l.turns,gd l.turns.length t=true:=by
 simp only[c7,ax,aV]at h
 exact h.2.2
theorem fp(h:c7 l=true):1≤l.turns.length∧l.turns.length≤40:=by
 simp only[c7,ax,decide_eq_true_eq]at h
 exact⟨h.1,h.2.1⟩
theorem od{x:Int}(h:0≤x∧x < (l.turns.length:Int)):bn l x∈l.turns:=by
 unfold bn
 have bo:x.toNat < l.turns.length:=by omega
 rw[aJ,aa bo]
 exact az bo
theorem Gg{n:Int}{t:fe}(h:gd n t=true):t.aP=[]∨eW n t.aP=true:=by
 unfold gd at h
 split at h
 ·simp only[ax,eQ]at h
  exact .inl h.2
 ·split at h
  ·simp only[ax]at h
   exact .inr h.2
  ·cases h
theorem gm{n:Int}{l:List bM}(h:eW n l=true):(1≤l.length∧l.length≤6)∧(∀a∈l,nX n a=true)∧(l.map bM.label).Nodup:=by
 simp only[eW,ax,decide_eq_true_eq,aV]at h
 exact⟨⟨h.1,h.2.1⟩,h.2.2.1,h.2.2.2⟩
theorem Bd{n:Int}{a:bM}(h:nX n a=true):0≤a.next∧a.next < n:=by
 simp only[nX,ax,decide_eq_true_eq]at h
 exact h.2.2
theorem pc(h:c7 l=true)(x:Int):cP l.g x=[]∨eW l.turns.length (cP l.g x)=true:=by
 rw[cg]
 unfold bn
 rw[aJ]
 cases hx:l.turns[x.toNat]? with
 |none=>exact .inl rfl
 |some t=>exact Gg (ml h t (an hx))
theorem mQ(h:c7 l=true):LZ l.g∧0 < l.g.length∧∀x,((cP l.g x).map bM.label).Nodup:=by
 refine⟨fun x a ha=>?_,?_,fun x=>?_⟩
 ·rcases pc h x with h1|h1
  ·rw[h1]at ha;cases ha
  ·have:=Bd ((gm h1).2.1 a ha)
   simpa[Loc.g]using this
 ·have:=fp h;simp[Loc.g];omega
 ·rcases pc h x with h1|h1
  ·rw[h1];simp
  ·exact(gm h1).2.2
theorem sV(l:Loc):(bj l).g=mN l.g:=by
 unfold Loc.g bj mN
 simp only[dA]
 refine gK fun x _=>?_
 show ly _ (bn l x).aP=ly _ (cP l.g x)
 rw[cg];rfl
theorem Bw{x:Int}(hx:x∈a8 l.g):bn (bj l) (pN (a8 l.g) x)=⟨(bn l x).kind,(bn l x).peer,ly (a8 l.g) (bn l x).aP⟩:=by
 have bo:=eS.2 hx
 unfold bn pN
 show(List.map _ (a8 l.g)).getD _ _=_
 rw[cZ,aJ,aI,aa bo,kU bo]
 rfl
theorem JL(h:c7 l=true):bj (bj l)=bj l:=by
 obtain⟨hg,h0,_⟩:=mQ h
 have hr:=tH hg h0
 show Loc.mk l.name _=Loc.mk l.name _
 congr 1
 rw[sV]
 refine(congrArg (List.map fun x=>(⟨(bn (bj l) x).kind,(bn (bj l) x).peer,ly (a8 (mN l.g)) (bn (bj l) x).aP⟩:fe)) hr).trans ?_
 rw[dA]
 refine gK fun x hx=>?_
 have ht:=Bw hx
 show(⟨(bn (bj l) (pN (a8 l.g) x)).kind,(bn (bj l) (pN (a8 l.g) x)).peer,ly (a8 (mN l.g)) (bn (bj l) (pN (a8 l.g) x)).aP⟩:fe)=_
 rw[ht]
 simp only
 congr 1
 rw[gV (a8 (mN l.g)),Ds,gV,dA]
 refine gK fun a ha=>?_
 have hn:=pr hg h0 hx (a:=a) (by rw[cg];exact jJ.1 ha)
 show({(rm (pN (a8 l.g)) a)with next:=pN (a8 (mN l.g)) (pN (a8 l.g) a.next)}:bM)=rm (pN (a8 l.g)) a
 rw[Kc hg h0 hn];rfl
theorem CX{n m:Int}{row:List Int}{l:List bM}(h:eW n l=true)(hr:∀a∈l,a.next∈row)(hm:(row.length:Int)=m):eW m (ly row l)=true:=by
 obtain⟨⟨h1,h2⟩,h3,h4⟩:=gm h
 have hp:=jw l
 have hl:(ly row l).length=l.length:=by rw[gV,aw,qc]
 simp only[eW,ax,decide_eq_true_eq,aV,hl]
 refine⟨h1,h2,fun a ha=>?_,?_⟩
 ·rw[gV]at ha
  obtain⟨b,hb,rfl⟩:=aE.1 ha
  have hb:=hp.mem_iff.1 hb
  have h5:=h3 b hb
  have bo:=eS.2 (hr b hb)
  simp only[nX,ax,decide_eq_true_eq]at h5⊢
  refine⟨h5.1,h5.2.1,?_,?_⟩
  ·show(0:Int)≤((row.idxOf b.next:Nat):Int);omega
  ·show((row.idxOf b.next:Nat):Int) < m;omega
 ·rw[gV,dA]
  show((fC l).map bM.label).Nodup
  exact(hp.map bM.label).nodup_iff.2 h4
theorem gW(h:c7 l=true):c7 (bj l)=true:=by
 obtain⟨hg,h0,_⟩:=mQ h
 have w7:=(iP hg h0).1
 have hlen:=w7.len
 have QZ:l.g.length=l.turns.length:=by simp[Loc.g]
 have hl:=fp h
 have Bq:(bj l).turns.length=(a8 l.g).length:=by simp[bj]
 obtain⟨r,VI⟩:=sf l.g
 simp only[c7,ax,decide_eq_true_eq,aV,Bq]
 refine⟨by rw[VI];simp,by omega,fun t ht=>?_⟩
 obtain⟨x,hx,rfl⟩:=aE.1 (show t∈List.map _ (a8 l.g)from ht)
 have dL:=od (l:=l) (x:=x) (by have:=w7.range x hx;omega)
 have b7:=ml h _ dL
 have H6:∀a∈(bn l x).aP,a.next∈a8 l.g:=fun a ha=>pr hg h0 hx (by rw[cg];exact ha)
 unfold gd at b7⊢
 simp only
 split at b7
 ·rename_i hk
  rw[if_pos hk]
  simp only[ax,eQ]at b7⊢
  refine⟨b7.1,?_⟩
  rw[b7.2];rfl
 ·rename_i hk
  rw[if_neg hk]
  split at b7
  ·rename_i AG
   rw[if_pos AG]
   simp only[ax]at b7⊢
   exact⟨b7.1,CX b7.2 H6 J⟩
  ·cases b7
end
end Go.Sy
namespace Go.Sy
theorem uY:∀{x y:List UInt8},Op.bytesLess x y=false→Op.bytesLess y x=false→x=y
 |[],[],_,_=>rfl
 |[],_::_,h,_=>by simp[Op.bytesLess]at h
 |_::_,[],_,h=>by simp[Op.bytesLess]at h
 |a::x,b::y,h1,h2=>by
  simp only[Op.bytesLess,Bool.or_eq_false_iff,decide_eq_false_iff_not,Bool.and_eq_false_iff,beq_eq_false_iff_ne,ne_eq]at h1 h2
  have vN:a=b:=by
   have h3:=h1.1;have h4:=h2.1
   rw[UInt8.lt_iff_toNat_lt]at h3 h4
   exact UInt8.toNat_inj.1 (by omega)
  subst vN
  have h5:Op.bytesLess x y=false:=by
   rcases h1.2 with h|h
   ·exact absurd J h
   ·exact h
  have h6:Op.bytesLess y x=false:=by
   rcases h2.2 with h|h
   ·exact absurd J h
   ·exact h
  rw[uY h5 h6]
theorem o7{x y:ByteArray}(h:x.toList=y.toList):x=y:=by
 rw[ByteArray.toList_eq,ByteArray.toList_eq]at h
 exact ByteArray.ext (Array.ext' h)
theorem sW{s t:ByteArray}(h1:gL s t=false)(h2:gL t s=false):s=t:=o7 (uY h1 h2)
theorem wR{l:List bM}(h:(l.map bM.label).Nodup){a b:bM}(ha:a∈l)(hb:b∈l)(e:a.label=b.label):a=b:=by
 obtain⟨i,hi,rfl⟩:=aB.1 ha
 obtain⟨j,hj,rfl⟩:=aB.1 hb
 have cj:=bA.1 h
 rw[ff,bm]at cj
 rcases cv i j with h3|h3|h3
 ·exact absurd e (cj i j hi hj h3)
 ·subst h3;rfl
 ·exact absurd e.symm (cj j i hj hi h3)
theorem J5{l m:List bM}(hp:l.Perm m)(h:(l.map bM.label).Nodup):fC l=fC m:=by
 have h1:(fC l).Perm (fC m):=(jw l).trans (hp.trans (jw m).symm)
 refine h1.eq_of_pairwise (le:=fun(a b:bM)=>gL b.label a.label=false) (fun a b ha hb h2 h3=>?_) (M4 l) (M4 m)
 exact wR h ((jw l).mem_iff.1 ha) (hp.mem_iff.2 ((jw m).mem_iff.1 hb)) (sW h3 h2)
end Go.Sy
namespace Go.Sy
abbrev bl(s:ByteArray):List UInt8:=s.data.toList
abbrev ba(l:List UInt8):ByteArray:=⟨l.toArray⟩
theorem ML(s:ByteArray):ba (bl s)=s:=rfl
theorem Nz(l:List ByteArray):(l.map bl).map ba=l:=by rw[dA];exact r6 l
theorem Cg(l:List (List UInt8)):(l.map ba).map bl=l:=by
 rw[dA]
 have:bl ∘ ba=id:=by funext x;simp[bl,ba]
 rw[this];exact r6 l
def jh(l:List ByteArray):List ByteArray:=((l.map bl).mergeSort fun x y=>decide (x≤y)).map ba
def mh(l:List ByteArray):List ByteArray:=(Lib.compact (l.map bl)).map ba
def nu(l:List ByteArray)(s:ByteArray):List ByteArray:=mh (jh (l++[s]))
theorem M1(s t:ByteArray):gL s t=Op.bytesLess (bl s) (bl t):=by unfold gL;rw[ByteArray.toList_eq,ByteArray.toList_eq]
theorem wZ(x y:List UInt8):(x≤y)↔Op.bytesLess y x=false:=by
 rw[Go.Proofs.bytesLess_eq];simp
theorem A8{x y z:List UInt8}(h1:Op.bytesLess y x=false)(h2:Op.bytesLess z y=false):Op.bytesLess z x=false:=by
 cases h:Op.bytesLess z x with
 |false=>rfl
 |true=>
  exfalso
  cases h3:Op.bytesLess x y with
  |true=>have:=nT h h3;rw[h2]at this;cases this
  |false=>
   have:=uY h1 h3
   subst this
   rw[h2]at h;cases h
theorem Jb{x y z:List UInt8}(h1:Op.bytesLess y x=false)(h2:Op.bytesLess y z=true):Op.bytesLess x z=true:=by
 cases h:Op.bytesLess x y with
 |true=>exact nT h h2
 |false=>have:=uY h1 h;subst this;exact h2
theorem Ja(x y:List UInt8):Op.bytesLess y x=false∨Op.bytesLess x y=false:=by
 cases h:Op.bytesLess y x with
 |false=>exact .inl rfl
 |true=>
  refine .inr ?_
  cases h2:Op.bytesLess x y with
  |false=>rfl
  |true=>have:=nT h h2;rw[CV]at this;cases this
theorem Er(zs:List (List UInt8)):(zs.mergeSort fun x y=>decide (x≤y)).Pairwise fun a b=>Op.bytesLess b a=false:=by
 refine(List.pairwise_mergeSort (le:=fun x y:List UInt8=>decide (x≤y)) (fun a b c h1 h2=>?_) (fun a b=>?_) zs).imp fun{a b} h=>(wZ a b).1 (by simpa using h)
 ·have h1:=(wZ a b).1 (by simpa using h1)
  have h2:=(wZ b c).1 (by simpa using h2)
  exact decide_eq_true ((wZ a c).2 (A8 h1 h2))
 ·rcases Ja a b with h|h
  ·rw[decide_eq_true ((wZ a b).2 h)];rfl
  ·rw[decide_eq_true ((wZ b a).2 h)];simp
theorem A4(d:Array (List UInt8))(hs:d.toList.Pairwise fun a b=>Op.bytesLess b a=false):∀m,m≤d.size→
 (Lib.compactUpTo d m).Pairwise (fun a b=>Op.bytesLess a b=true)∧∀x,x∈Lib.compactUpTo d m↔∃j,j < m∧d[j]! =x
 |0,_=>⟨by simp[Lib.compactUpTo],fun x=>by simp[Lib.compactUpTo]⟩
 |m+1,hm=>by
  obtain⟨h1,h2⟩:=A4 d hs m (by omega)
  have hle:∀j,j < m→Op.bytesLess d[m]! d[j]! =false:=fun j hj=>by
   rw[getElem!_pos d m (by omega),getElem!_pos d j (by omega)]
   exact bm.1 hs j m (by simp;omega) (by simp;omega) hj
  rw[Lib.compactUpTo_succ]
  by_cases hk:Lib.keeps d m=true
  ·rw[if_pos hk]
   refine⟨List.pairwise_append.2 ⟨h1,List.pairwise_singleton _ _,fun a ha b hb=>?_⟩,fun x=>?_⟩
   ·rw[aH]at hb
    subst hb
    obtain⟨j,hj,rfl⟩:=(h2 a).1 ha
    have cj:d[m]!≠d[m - 1]! :=by
     simp only[Lib.keeps,decide_eq_true_eq]at hk
     rcases hk with hk|hk
     ·omega
     ·exact hk
    have h3:Op.bytesLess d[m - 1]! d[m]! =true:=by
     cases h4:Op.bytesLess d[m - 1]! d[m]! with
     |true=>rfl
     |false=>exact absurd (uY (hle (m - 1) (by omega)) h4) cj
    by_cases Pt:j=m - 1
    ·subst Pt;exact h3
    ·refine Jb (y:=d[m - 1]!) ?_ h3
     rw[getElem!_pos d (m - 1) (by omega),getElem!_pos d j (by omega)]
     exact bm.1 hs j (m - 1) (by simp;omega) (by simp;omega) (by omega)
   ·rw[aQ,aH,h2 x]
    constructor
    ·rintro(⟨j,hj,e⟩|e)
     ·exact⟨j,by omega,e⟩
     ·exact⟨m,by omega,e.symm⟩
    ·rintro⟨j,hj,e⟩
     by_cases To:j=m
     ·subst To;exact .inr e.symm
     ·exact .inl ⟨j,by omega,e⟩
  ·rw[if_neg hk,cV]
   refine⟨h1,fun x=>?_⟩
   rw[h2 x]
   have he:m≠0∧d[m]! =d[m - 1]! :=by
    simp only[Lib.keeps,decide_eq_true_eq,not_or,r7]at hk
    exact hk
   constructor
   ·rintro⟨j,hj,e⟩;exact⟨j,by omega,e⟩
   ·rintro⟨j,hj,e⟩
    by_cases To:j=m
    ·subst To;exact⟨j - 1,by omega,by rw[←he.2];exact e⟩
    ·exact⟨j,by omega,e⟩
def o9(l:List ByteArray):Prop:=l.Pairwise fun a b=>gL a b=true
theorem wj{l:List ByteArray}{x:ByteArray}:x∈jh l↔x∈l:=by
 have hp:=(List.mergeSort_perm (l.map bl) fun x y=>decide (x≤y)).map ba
 rw[Nz]at hp
 exact hp.mem_iff
theorem rf(l:List ByteArray):(jh l).length=l.length:=by
 unfold jh;rw[aw,List.length_mergeSort,aw]
theorem xl{l:List ByteArray}:o9 (mh (jh l))∧∀x,x∈mh (jh l)↔x∈l:=by
 have hs:((jh l).map bl).toArray.toList.Pairwise fun a b=>Op.bytesLess b a=false:=by
  rw[List.toList_toArray];unfold jh;rw[Cg];exact Er _
 obtain⟨h1,h2⟩:=A4 _ hs ((jh l).map bl).toArray.size (aA _)
 have he:Lib.compact ((jh l).map bl)=Lib.compactUpTo ((jh l).map bl).toArray ((jh l).map bl).toArray.size:=by unfold Lib.compact;simp
 refine⟨?_,fun x=>?_⟩
 ·unfold o9 mh
  rw[ff,he]
  refine h1.imp fun{a b} h=>?_
  rw[M1];simpa[bl,ba]using h
 ·unfold mh
  rw[aE,he]
  constructor
  ·rintro⟨y,hy,rfl⟩
   obtain⟨j,hj,e⟩:=(h2 y).1 hy
   rw[getElem!_pos _ j hj]at e
   have hm:y∈(jh l).map bl:=by
    have h3:=Array.getElem_mem hj
    rw[e]at h3
    simpa using h3
   obtain⟨z,hz,rfl⟩:=aE.1 hm
   rw[ML];exact wj.1 hz
  ·intro hx
   have hm:bl x∈(jh l).map bl:=aE.2 ⟨x,wj.2 hx,rfl⟩
   refine⟨bl x,(h2 _).2 ?_,ML x⟩
   obtain⟨j,hj,e⟩:=aB.1 hm
   exact⟨j,by simpa using hj,by rw[getElem!_pos _ j (by simpa using hj)];simpa using e⟩
theorem tK(l:List ByteArray)(s:ByteArray):o9 (nu l s):=xl.1
theorem tJ{l:List ByteArray}{s x:ByteArray}:x∈nu l s↔x∈l∨x=s:=by
 unfold nu;rw[xl.2 x,aQ,aH]
theorem rV(l:List ByteArray):(mh l).length≤l.length:=by
 unfold mh Lib.compact Lib.compactUpTo
 rw[aw,aw]
 exact dN (eG _ _) (by simp)
theorem zz(l:List ByteArray)(s:ByteArray):(nu l s).length≤l.length+1:=by
 have h:=rV (jh (l++[s]))
 rw[rf]at h
 simpa[nu]using h
theorem oJ{l:List ByteArray}(h:o9 l):l.Nodup:=by
 rw[bA]
 exact h.imp fun{a b} h e=>by rw[e,lf]at h;cases h
theorem Eb{l m:List ByteArray}(hl:o9 l)(hm:o9 m)(h:∀x,x∈l↔x∈m):l=m:=by
 have hp:l.Perm m:=(List.perm_ext_iff_of_nodup (oJ hl) (oJ hm)).2 h
 refine hp.eq_of_pairwise (le:=fun a b=>gL a b=true) (fun a b _ _ h1 h2=>?_) hl hm
 have:=gu h1 h2
 rw[lf]at this;cases this
def iR(l:Loc)(out:List ByteArray)(x:Int):List ByteArray:=if(bn l x).kind=0 then out else nu out (bn l x).peer
def gF(l:Loc)(rows:List Int):List ByteArray:=rows.foldl (iR l) []
def fL(l:Loc):List ByteArray:=if c7 l then gF l (a8 l.g)else[]
theorem BV{l:Loc}{out:List ByteArray}{x:Int}(h:o9 out):o9 (iR l out x):=by
 unfold iR;split
 ·exact h
 ·exact tK _ _
theorem BU{l:Loc}{out:List ByteArray}{x:Int}{s:ByteArray}:s∈iR l out x↔s∈out∨((bn l x).kind≠0∧s=(bn l x).peer):=by
 unfold iR;split
 ·rename_i h;simp[h]
 ·rename_i h;rw[tJ];simp[h]
theorem pt{l:Loc}:∀(rows:List Int) {out:List ByteArray},o9 out→o9 (rows.foldl (iR l) out)∧∀s,s∈rows.foldl (iR l) out↔s∈out∨∃x∈rows,(bn l x).kind≠0∧s=(bn l x).peer
 |[],out,h=>⟨h,fun s=>by simp⟩
 |x::rows,out,h=>by
  obtain⟨h1,h2⟩:=pt rows (BV (l:=l) (x:=x) h)
  refine⟨h1,fun s=>?_⟩
  rw[cx,h2 s,BU]
  constructor
  ·rintro((h|⟨h3,h4⟩)|⟨y,hy,h3,h4⟩)
   ·exact .inl h
   ·exact .inr ⟨x,ah,h3,h4⟩
   ·exact .inr ⟨y,ab _ hy,h3,h4⟩
  ·rintro(h|⟨y,hy,h3,h4⟩)
   ·exact .inl (.inl h)
   ·rcases ae.1 hy with rfl|hy
    ·exact .inl (.inr ⟨h3,h4⟩)
    ·exact .inr ⟨y,hy,h3,h4⟩
theorem BT(l:Loc)(rows:List Int):o9 (gF l rows):=(pt rows List.Pairwise.nil).1
theorem BR{l:Loc}{rows:List Int}{s:ByteArray}:s∈gF l rows↔∃x∈rows,(bn l x).kind≠0∧s=(bn l x).peer:=by
 unfold gF;rw[(pt rows List.Pairwise.nil).2 s];simp
theorem BS(l:Loc)(rows:List Int):(gF l rows).length≤rows.length:=by
 have h:∀(rows:List Int) (out:List ByteArray),(rows.foldl (iR l) out).length≤out.length+rows.length:=by
  intro rows
  induction rows with
  |nil=>intro out;simp
  |cons x rows ih=>
   intro out
   rw[cx]
   have h1:=ih (iR l out x)
   have h2:(iR l out x).length≤out.length+1:=by
    unfold iR;split
    ·omega
    ·exact zz _ _
   simp only[dT];omega
 have:=h rows []
 simpa[gF]using this
end Go.Sy
