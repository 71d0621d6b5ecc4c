/- Contracts of the reference, bundle Bl1. -/
import Derived.Test.YtdjocfajcbhmgaaGreatDoorAu
import Derived.Test.YtdjocfajcbhmgaaGreatDoorSymT
import Derived.Test.YtdjocfajcbhmgaaGreatDoorSy4
import Derived.Test.YtdjocfajcbhmgaaGreatDoorSy1
import Derived.Laws.Strings
import Derived.Sort.Walk0
import Derived.Lib.SlicesCompact
set_option maxHeartbeats 64000000
set_option linter.unusedSimpArgs false
set_option linter.unusedVariables false
set_option linter.unusedSectionVars false
namespace Go.Sy
open Go.Proofs
set_option maxRecDepth 100000
structure Edge where
 label:ByteArray
 kind:Int
 at_:Int
 next:Int
abbrev Edge.cs(e:Edge):List CT:=[.str e.label,.int .i64 e.kind,.int .i64 e.at_,.int .i64 e.next]
structure Nd where
 kind:Int
 peer:ByteArray
 ax:List Edge
abbrev nj(l:List Edge):CT:=.slice false 4 (l.map Edge.cs)
abbrev Nd.cs(x:Nd):List CT:=[.int .i64 x.kind,.str x.peer,nj x.ax]
structure Bk where
 nodes:List Nd
 names:List ByteArray
 roots:List Int
abbrev mo(l:List Nd):CT:=.slice false 3 (l.map Nd.cs)
abbrev bL(l:List ByteArray):CT:=.slice false 1 (l.map fun s=>[CT.str s])
abbrev ch(l:List Int):CT:=.slice false 1 (l.map fun r=>[CT.int .i64 r])
abbrev Bk.cs(b:Bk):List CT:=[mo b.nodes,bL b.names,ch b.roots]
abbrev Ag(l:List CT):SV:=.agg (l.map SC.c)
end Go.Sy
namespace Go.Sy
open Go.Proofs
abbrev C1(c:CT):SV:=.one (.c c)
abbrev Rv(c:CT):ST:=.v (.one (.c c))
set_option maxRecDepth 100000
attribute [local irreducible] SOps Goes
def Ie(x:Int):Bool:=decide (97≤x)&&decide (x≤122)
def Pn(x:Int):Bool:=decide (48≤x)&&decide (x≤57)
theorem CK(x:Int):er Tryz.prog 126 [] [C1 (.int .u8 x)] (Rv (.bool (Ie x))) []:=by
 refine bn (c:=_) Tryz.func126 rfl rfl rfl (by decide) fun w M0 H Z=>?_
 repeat'(first|refine GY ?_|(refine mY ?_;refine ao th J ?_)|refine SOps.nil ?_|(refine B0 J J (fun _=>?_) (fun _=>?_)<;>refine ao th J ?_)|(refine dw th Tryz.func126 (.inr ⟨_,rfl⟩) J J J ⟨?_,rfl⟩))
 all_goals first|(simp_all[dd,Ie];done)|(simp_all[dd,Ie];omega)
theorem Pm(x:Int):er Tryz.prog 128 [] [C1 (.int .u8 x)] (Rv (.bool (Pn x))) []:=by
 refine bn (c:=_) Tryz.func128 rfl rfl rfl (by decide) fun w M0 H Z=>?_
 repeat'(first|refine GY ?_|(refine mY ?_;refine ao th J ?_)|refine SOps.nil ?_|(refine B0 J J (fun _=>?_) (fun _=>?_)<;>refine ao th J ?_)|(refine dw th Tryz.func128 (.inr ⟨_,rfl⟩) J J J ⟨?_,rfl⟩))
 all_goals first|(simp_all[dd,Pn];done)|(simp_all[dd,Pn];omega)
def KY:List ByteArray:=[
 ⟨#[97,110,100]⟩,
 ⟨#[97,115]⟩,
 ⟨#[97,116]⟩,
 ⟨#[98,111,111,108]⟩,
 ⟨#[99,97,108,108]⟩,
 ⟨#[99,104,97,110]⟩,
 ⟨#[100,114,111,112]⟩,
 ⟨#[101,108,115,101]⟩,
 ⟨#[101,109,112,116,121]⟩,
 ⟨#[101,110,100]⟩,
 ⟨#[102,97,105,108]⟩,
 ⟨#[102,97,108,115,101]⟩,
 ⟨#[102,114,111,109]⟩,
 ⟨#[104,101,97,114]⟩,
 ⟨#[105,102]⟩,
 ⟨#[105,110,116]⟩,
 ⟨#[106,111,105,110]⟩,
 ⟨#[108,101,110]⟩,
 ⟨#[108,101,116]⟩,
 ⟨#[108,105,115,116]⟩,
 ⟨#[108,111,99,97,108]⟩,
 ⟨#[108,111,115,116]⟩,
 ⟨#[109,111,100]⟩,
 ⟨#[110,111,116]⟩,
 ⟨#[111,112,101,110]⟩,
 ⟨#[111,114]⟩,
 ⟨#[112,114,105,110,116]⟩,
 ⟨#[112,114,111,99]⟩,
 ⟨#[112,114,111,116,111,99,111,108]⟩,
 ⟨#[112,117,115,104]⟩,
 ⟨#[114,111,108,101,115]⟩,
 ⟨#[115,97,121]⟩,
 ⟨#[115,112,97,119,110]⟩,
 ⟨#[115,116,111,112]⟩,
 ⟨#[116,101,120,116]⟩,
 ⟨#[116,111]⟩,
 ⟨#[116,114,117,101]⟩,
 ⟨#[117,110,105,116]⟩,
 ⟨#[119,105,116,104]⟩
]
def VC(s:ByteArray):Bool:=KY.any fun k=>decide (s=k)
theorem Ii(s:ByteArray):er Tryz.prog 127 [] [C1 (.str s)] (Rv (.bool (VC s))) []:=by
 refine bn (c:=_) Tryz.func127 rfl rfl rfl (by decide) fun w M0 H Z=>?_
 repeat'(first|refine GY ?_|refine G2 ?_|refine zH ?_|refine LS ?_|refine LX J ?_|refine Sx J ?_|refine O3 ?_|refine O2 ?_|refine IF ?_|(refine mY ?_;refine ao th J ?_)|refine SOps.nil ?_|(refine U1 J (fun _=>?_) (fun _=>?_))|(refine dw th Tryz.func127 (.inr ⟨_,rfl⟩) J J J ⟨?_,rfl⟩)|refine zI J ?_|refine xi J ?_)
 any_goals(rename_i h;subst h;rfl)
 simp[dd,VC,KY, *]
end Go.Sy
namespace Go.Sy
open Go.Proofs
set_option maxRecDepth 100000
attribute [local irreducible] SOps Goes
def uP(c:UInt8):Bool:=Ie (c.toNat:Int)||Pn (c.toNat:Int)
def cg(s:ByteArray):Bool:=
 match s.data.toList with
 |[]=>false
 |c::r=>decide (r.length < 12)&&(Ie (c.toNat:Int)&&(!VC s&&r.all uP))
theorem Gc(s:ByteArray):s.data.toList.length=s.size:=by simp
theorem wI{s:ByteArray}{c:UInt8}{r:List UInt8}(h:s.data.toList=c::r):
 cg s=(decide (r.length < 12)&&(Ie (c.toNat:Int)&&(!VC s&&r.all uP))):=by
 unfold cg;rw[h]
theorem qq(s:ByteArray):er Tryz.prog 89 [] [C1 (.str s)] (Rv (.bool (cg s))) []:=by
 have cM:=Gc s
 cases hl:s.data.toList with
 |nil=>
  have h0:s.size=0:=by rw[←cM,hl];rfl
  have hn:cg s=false:=by unfold cg;rw[hl]
  refine bn (c:=_) Tryz.func89 rfl rfl rfl (by decide) fun w M0 H Z=>?_
  repeat'(first|refine aA ?_|(refine aB ?_ ?_<;>first|exact aD|(refine aE ?_;intro hb))|refine dw th Tryz.func89 (.inr ⟨_,rfl⟩) J J J ⟨?_,rfl⟩)
  ·simp[dd,hn]
  all_goals(exfalso;omega)
 |cons c r=>
  have hr:r.length+1=s.size:=by rw[←cM,hl];rfl
  have hn:=wI hl
  have hc:s.data.toList[0]? =some c:=by rw[hl];rfl
  refine bn (c:=_) Tryz.func89 rfl rfl rfl (by decide) fun w M0 H Z=>?_
  repeat'(first|refine aA ?_|(refine aB ?_ ?_<;>first|exact aD|(refine aE ?_;intro hb))|refine dw th Tryz.func89 (.inr ⟨_,rfl⟩) J J J ⟨?_,rfl⟩|((first|refine P4 th J J J J J J J 0 c J hc ?_|refine aR (CK _) [] J J J J J J J J J J ?_|refine aR (Ii _) [] J J J J J J J J J J ?_);refine ao th J ?_))
  ·simp[dd,hn,show ¬r.length < 12 by omega]
  ·simp[dd,hn,hb]
  ·simp[dd,hn,hb]
  ·rename_i Ix IA
   refine bE (fun k:Nat=>k≤r.length∧(r.take k).all uP=true) (fun k=>[(0,.v (C1 (.str s))),(3,.v (C1 (.int .i64 (k+1:Int))))]) (fun _=>[]) (fun k=>r.length - k) 0 ⟨aF _,rfl⟩
    aH (fun k hk ih=>?_)
   obtain⟨hk,b6⟩:=hk
   by_cases bj:k < r.length
   ·have hx:s.data.toList[k+1]? =some r[k]:=by rw[hl];simp[bj]
    have BG:(r.take (k+1)).all uP=uP r[k]:=by
     rw[al bj,dR,b6];simp
    repeat'(first|refine aA ?_|(refine aB ?_ ?_<;>first|exact aD|(refine aE ?_;intro hb))|refine dw th Tryz.func89 (.inr ⟨_,rfl⟩) J J J ⟨?_,rfl⟩|((first|refine P4 th J J J J J J J (k+1) r[k] J hx ?_|refine aR (CK _) [] J J J J J J J J J J ?_|refine aR (Pm _) [] J J J J J J J J J J ?_|refine bH J J J J J J (by omega) ?_);refine ao th J ?_))
    ·have:r.all uP=false:=by
      rw[dC]
      exact⟨r[k],an bj,by simp[uP, *]⟩
     simp[dd,hn,this]
    ·exact aS (ih (k+1) ⟨bj,by rw[BG];simp[uP, *]⟩ (by omega))
    ·exact aS (ih (k+1) ⟨bj,by rw[BG];simp[uP, *]⟩ (by omega))
   ·have gv:k=r.length:=by omega
    subst gv
    rw[bq]at b6
    repeat'(first|refine aA ?_|(refine aB ?_ ?_<;>first|exact aD|(refine aE ?_;intro hb))|refine dw th Tryz.func89 (.inr ⟨_,rfl⟩) J J J ⟨?_,rfl⟩)
    ·have:r.length < 12:=by omega
     simp[dd,hn,this,b6,IA, *]
end Go.Sy
namespace Go.Sy
structure bD where
 label:ByteArray
 kind:Int
 name:ByteArray
 next:Int
deriving DecidableEq
abbrev bD.cs(a:bD):List CT:=[.str a.label,.int .i64 a.kind,.str a.name,.int .i64 a.next]
abbrev fM(l:List bD):CT:=.slice false 4 (l.map bD.cs)
structure jk where
 kind:Int
 peer:ByteArray
 ax:List bD
deriving DecidableEq
abbrev jk.cs(t:jk):List CT:=[.int .i64 t.kind,.str t.peer,fM t.ax]
structure Loc where
 name:ByteArray
 turns:List jk
abbrev sJ(l:List jk):CT:=.slice false 3 (l.map jk.cs)
abbrev Loc.cs(l:Loc):List CT:=[.str l.name,sJ l.turns]
structure kP where
 from_:ByteArray
 to:ByteArray
 ax:List bD
deriving DecidableEq
abbrev kP.cs(x:kP):List CT:=[.str x.from_,.str x.to,fM x.ax]
structure b7 where
 name:ByteArray
 aW:List ByteArray
 points:List kP
abbrev lZ(l:List kP):CT:=.slice false 3 (l.map kP.cs)
abbrev b7.cs(p:b7):List CT:=[.str p.name,bL p.aW,lZ p.points]
def FO:List UInt8→Option (List UInt8×List UInt8)
 |[]=>none
 |c::r=>if c=46 then some ([],r)else(FO r).map fun p=>(c::p.1,p.2)
def BQ(s:ByteArray):Bool:=match FO s.data.toList with
 |none=>cg s
 |some (a,b)=>cg ⟨a.toArray⟩&&cg ⟨b.toArray⟩
def xC(kind:Int)(name:ByteArray):Bool:=if kind=5 then BQ name else decide (0≤kind)&&(decide (kind < 5)&&decide (name=⟨#[]⟩))
def ph(n:Int)(a:bD):Bool:=cg a.label&&(xC a.kind a.name&&(decide (0≤a.next)&&decide (a.next < n)))
def ez(n:Int)(l:List bD):Bool:=decide (1≤l.length)&&(decide (l.length≤6)&&(l.all (ph n)&&decide ((l.map bD.label).Nodup)))
def kS(n:Int)(t:jk):Bool:=
 if t.kind=0 then decide (t.peer=⟨#[]⟩)&&t.ax.isEmpty else if t.kind=1∨t.kind=2 then cg t.peer&&ez n t.ax else false
def fP(l:Loc):Bool:=decide (1≤l.turns.length)&&(decide (l.turns.length≤40)&&l.turns.all (kS l.turns.length))
def uR(a:bD):List bD→List bD
 |[]=>[a]
 |b::l=>if gQ a.label b.label then a::b::l else b::uR a l
def jr(l:List bD):List bD:=l.foldl (fun out a=>uR a out) []
abbrev x8:=List (List bD)
def gu(g:x8)(x:Int):List bD:=g.getD x.toNat []
def bW(out:List Int):List bD→List Int
 |[]=>out
 |a::l=>bW (if a.next∈out then out else out++[a.next]) l
def Ji(g:x8):Nat→Nat→List Int→List Int
 |0,_,out=>out
 |f+1,i,out=>match out[i]? with
  |none=>out
  |some x=>Ji g f (i+1) (bW out (jr (gu g x)))
def eT(g:x8):List Int:=Ji g (g.length+1) 0 [0]
def Loc.g(l:Loc):x8:=l.turns.map jk.ax
def AP(row:List Int)(l:List bD):List bD:=(jr l).map fun a=>{a with next:=((row.idxOf a.next:Nat):Int)}
def gV:jk:=⟨0,⟨#[]⟩,[]⟩
def dc(l:Loc)(x:Int):jk:=l.turns.getD x.toNat gV
def ox(l:Loc):Loc:=⟨l.name,(eT l.g).map fun x=>⟨(dc l x).kind,(dc l x).peer,AP (eT l.g) (dc l x).ax⟩⟩
def EC(φ:Int→Int)(a:bD):bD:={a with next:=φ a.next}
theorem jb:∀(l:List bD) (out:List Int),∃r,bW out l=out++r
 |[],out=>⟨[],by simp[bW]⟩
 |a::l,out=>by
  obtain⟨r,hr⟩:=jb l (if a.next∈out then out else out++[a.next])
  rw[bW,hr]
  split
  ·exact⟨r,rfl⟩
  ·exact⟨a.next::r,by simp⟩
theorem ni:∀(l:List bD) (out:List Int) (x:Int),x∈bW out l↔x∈out∨∃a∈l,a.next=x
 |[],out,x=>by simp[bW]
 |a::l,out,x=>by
  rw[bW,ni l]
  by_cases h:a.next∈out
  ·rw[if_pos h]
   constructor
   ·rintro(h1|⟨b,hb,e⟩)
    ·exact .inl h1
    ·exact .inr ⟨b,ab _ hb,e⟩
   ·rintro(h1|⟨b,hb,e⟩)
    ·exact .inl h1
    ·rcases ae.1 hb with rfl|hb
     ·exact .inl (e▸h)
     ·exact .inr ⟨b,hb,e⟩
  ·rw[if_neg h]
   simp only[aK,ae,kF,or_false,exists_eq_or_imp]
   constructor
   ·rintro((h1|h1)|h1)
    ·exact .inl h1
    ·exact .inr (.inl h1.symm)
    ·exact .inr (.inr h1)
   ·rintro(h1|h1|h1)
    ·exact .inl (.inl h1)
    ·exact .inl (.inr h1.symm)
    ·exact .inr h1
theorem Hf(g:x8):∀(f i:Nat) (out:List Int),∃r,Ji g f i out=out++r
 |0,_,out=>⟨[],by simp[Ji]⟩
 |f+1,i,out=>by
  rw[Ji]
  cases out[i]? with
  |none=>exact⟨[],by simp⟩
  |some x=>
   obtain⟨r,hr⟩:=jb (jr (gu g x)) out
   obtain⟨q,hq⟩:=Hf g f (i+1) (bW out (jr (gu g x)))
   exact⟨r++q,by simp only;rw[hq,hr,bf]⟩
end Go.Sy
namespace Go.Sy
theorem tg(a:bD):∀l:List bD,(uR a l).Perm (a::l)
 |[]=>.refl _
 |b::l=>by
  rw[uR]
  split
  ·exact .refl _
  ·exact((tg a l).cons b).trans (.swap a b l)
theorem j1(l:List bD):(jr l).Perm l:=by
 have h:∀(l out:List bD),(l.foldl (fun out a=>uR a out) out).Perm (out++l):=by
  intro l
  induction l with
  |nil=>intro out;simp
  |cons a l ih=>
   intro out
   rw[cJ]
   refine(ih _).trans (((tg a out).append_right l).trans ?_)
   exact(List.perm_middle (a:=a) (l₁:=out) (l₂:=l)).symm
 have:=h l []
 rw[gN]at this
 exact this
theorem mH{l:List bD}{a:bD}:a∈jr l↔a∈l:=(j1 l).mem_iff
theorem rP(l:List bD):(jr l).length=l.length:=(j1 l).length_eq
def pq(l:List bD):Prop:=l.Pairwise fun a b=>gQ b.label a.label=false
theorem CY{a:bD}:∀{l:List bD},(∀b∈l,gQ a.label b.label=false)→uR a l=l++[a]
 |[],_=>rfl
 |b::l,h=>by
  rw[uR,if_neg (by rw[h b ah];decide),CY fun c hc=>h c (ab _ hc)];rfl
theorem NJ{l:List bD}(h:pq l):jr l=l:=by
 have key:∀(l out:List bD),pq (out++l)→l.foldl (fun out a=>uR a out) out=out++l:=by
  intro l
  induction l with
  |nil=>intro out _;simp
  |cons a l ih=>
   intro out ho
   have h1:∀b∈out,gQ a.label b.label=false:=fun b hb=>(List.pairwise_append.1 ho).2.2 b hb a ah
   rw[cJ,CY h1,ih _ (by simpa using ho)]
   simp
 have:=key l [] (by simpa using h)
 rw[gN]at this
 exact this
theorem CX(Ty:∀s,gQ s s=false)(MY:∀{s t u},gQ s t=true→gQ t u=true→gQ s u=true){a:bD}:∀{l:List bD},pq l→pq (uR a l)
 |[],_=>by simp[uR,pq]
 |b::l,h=>by
  have has:∀{s t},gQ s t=true→gQ t s=false:=fun{s t} h1=>by
   cases h2:gQ t s with
   |false=>rfl
   |true=>have:=MY h1 h2;rw[Ty]at this;cases this
  rw[uR]
  obtain⟨h1,h2⟩:=List.pairwise_cons.1 h
  split
  ·rename_i ur
   refine List.pairwise_cons.2 ⟨fun c hc=>?_,h⟩
   rcases ae.1 hc with rfl|hc
   ·exact has ur
   ·cases h3:gQ c.label a.label with
    |false=>rfl
    |true=>have:=MY h3 ur;rw[h1 c hc]at this;cases this
  ·rename_i ur
   refine List.pairwise_cons.2 ⟨fun c hc=>?_,CX Ty MY h2⟩
   rcases(tg a l).mem_iff.1 hc |> ae.1 with rfl|hc
   ·simpa using ur
   ·exact h1 c hc
theorem J1(Ty:∀s,gQ s s=false)(MY:∀{s t u},gQ s t=true→gQ t u=true→gQ s u=true)(l:List bD):pq (jr l):=by
 have h:∀(l out:List bD),pq out→pq (l.foldl (fun out a=>uR a out) out):=by
  intro l
  induction l with
  |nil=>intro out ho;exact ho
  |cons a l ih=>intro out ho;exact ih _ (CX Ty MY ho)
 exact h l [] (by simp[pq])
def TK(g:x8):Prop:=∀x a,a∈gu g x→0≤a.next∧a.next < (g.length:Int)
structure Reached(g:x8)(out:List Int):Prop where
 nodup:out.Nodup
 range:∀x∈out,0≤x∧x < (g.length:Int)
theorem pe{g:x8}:∀(l:List bD) {out:List Int},Reached g out→(∀a∈l,0≤a.next∧a.next < (g.length:Int))→Reached g (bW out l)
 |[],_,h,_=>h
 |a::l,out,h,hl=>by
  rw[bW]
  refine pe l ?_ fun b hb=>hl b (ab _ hb)
  split
  ·exact h
  ·rename_i hn
   refine⟨eQ.2 ⟨h.nodup,by simp,fun x hx y hy e=>?_⟩,fun x hx=>?_⟩
   ·rw[aq]at hy;rw[e,hy]at hx;exact hn hx
   ·rcases aK.1 hx with hx|hx
    ·exact h.range x hx
    ·rw[aq]at hx;rw[hx];exact hl a ah
theorem wB:∀(n:Nat) (l:List Nat),l.Nodup→(∀k∈l,k < n)→l.length≤n
 |0,l,_,h=>by
  cases l with
  |nil=>simp
  |cons a l=>exact absurd (h a ah) (by omega)
 |n+1,l,hd,h=>by
  by_cases hm:n∈l
  ·have h1:=wB n (l.erase n) (hd.erase n) fun k hk=>by
    have h2:=h k (List.mem_of_mem_erase hk)
    have h3:k≠n:=fun e=>by subst e;exact(hd.not_mem_erase) hk
    omega
   rw[List.length_erase_of_mem hm]at h1
   omega
  ·have:=wB n l hd fun k hk=>by
    have h2:=h k hk
    have h3:k≠n:=fun e=>hm (e▸hk)
    omega
   omega
theorem Reached.len{g:x8}{out:List Int}(h:Reached g out):out.length≤g.length:=by
 have h1:(out.map Int.toNat).Nodup:=by
  rw[bM,eP]
  refine List.Pairwise.imp_of_mem (fun{a b} ha hb ur=>?_) (bM.1 h.nodup)
  have:=h.range a ha;have:=h.range b hb
  omega
 have h2:∀k∈out.map Int.toNat,k < g.length:=fun k hk=>by
  obtain⟨x,hx,rfl⟩:=aL.1 hk
  have:=h.range x hx;omega
 simpa using wB g.length _ h1 h2
def sA(g:x8)(k:Nat)(out:List Int):Prop:=∀j x,j < k→out[j]? =some x→∀a∈gu g x,a.next∈out
theorem Mx{g:x8}(hg:TK g):∀(f i:Nat) (out:List Int),Reached g out→sA g i out→i≤out.length→g.length < f+i→Reached g (Ji g f i out)∧sA g (Ji g f i out).length (Ji g f i out)
 |0,i,out,h,_,hi,hf=>by have:=h.len;omega
 |f+1,i,out,h,hc,hi,hf=>by
  rw[Ji]
  cases hx:out[i]? with
  |none=>
   have:out.length≤i:=gK.1 hx
   show Reached g out∧sA g out.length out
   exact⟨h,fun j x hj=>hc j x (by omega)⟩
  |some x=>
   simp only
   have bj:=(ai.1 hx).1
   have h1:=pe (jr (gu g x)) h fun a ha=>hg x a (mH.1 ha)
   obtain⟨r,hr⟩:=jb (jr (gu g x)) out
   refine Mx hg f (i+1) _ h1 (fun j y hj hy a ha=>?_) (by rw[hr,au];omega) (by omega)
   rw[hr,aw (by omega)]at hy
   rw[ni]
   by_cases lz:j=i
   ·subst lz
    rw[hx]at hy;injection hy with hy;subst hy
    exact .inr ⟨a,mH.2 ha,rfl⟩
   ·exact .inl (hc j y (by omega) hy a ha)
theorem vQ{g:x8}(hg:TK g)(h0:0 < g.length):Reached g (eT g)∧sA g (eT g).length (eT g):=
 Mx hg _ 0 [0] ⟨by simp,fun x hx=>by rw[aq]at hx;subst hx;omega⟩ (fun j x hj=>by omega) (by simp) (by omega)
theorem Ca(g:x8):∃r,eT g=0::r:=by
 obtain⟨r,hr⟩:=Hf g (g.length+1) 0 [0]
 exact⟨r,by rw[eT,hr];rfl⟩
end Go.Sy
namespace Go.Sy
section
variable {g:x8}
def Ra(row:List Int)(x:Int):Int:=((row.idxOf x:Nat):Int)
theorem mL(row:List Int)(l:List bD):AP row l=(jr l).map (EC (Ra row)):=rfl
theorem J0{φ:Int→Int}{l:List bD}(h:pq l):pq (l.map (EC φ)):=by
 unfold pq at h⊢
 rw[eP]
 exact h
variable (Ty:∀s,gQ s s=false) (MY:∀{s t u},gQ s t=true→gQ t u=true→gQ s u=true)
include Ty MY
end
end Go.Sy
namespace Go.Sy
theorem FW:∀l:List UInt8,Op.bytesLess l l=false
 |[]=>rfl
 |a::l=>by simp[Op.bytesLess,FW l]
theorem pd:∀{x y z:List UInt8},Op.bytesLess x y=true→Op.bytesLess y z=true→Op.bytesLess x z=true
 |_,[],_,h,_=>by cases ‹List UInt8›<;>simp[Op.bytesLess]at h
 |_,_::_,[],_,h=>by simp[Op.bytesLess]at h
 |[],_::_,_::_,_,_=>rfl
 |a::x,b::y,c::z,h1,h2=>by
  simp only[Op.bytesLess,eu,decide_eq_true_eq,av,beq_iff_eq]at h1 h2⊢
  rcases h1 with h1|⟨rfl,h1⟩
  ·rcases h2 with h2|⟨rfl,h2⟩
   ·exact .inl (UInt8.lt_trans h1 h2)
   ·exact .inl h1
  ·rcases h2 with h2|⟨rfl,h2⟩
   ·exact .inl h2
   ·exact .inr ⟨rfl,pd h1 h2⟩
theorem lV(s:ByteArray):gQ s s=false:=FW _
theorem iT{a b c:ByteArray}(h1:gQ a b=true)(h2:gQ b c=true):gQ a c=true:=pd h1 h2
end Go.Sy
namespace Go.Sy
theorem Q3(l:List bD):pq (jr l):=J1 lV iT l
section
variable {g:x8}
theorem vR(hg:TK g)(h0:0 < g.length){x:Int}(hx:x∈eT g){a:bD}(ha:a∈gu g x):a.next∈eT g:=by
 obtain⟨j,hj,rfl⟩:=aC.1 hx
 exact(vQ hg h0).2 j _ hj (aa hj) a ha
end
end Go.Sy
namespace Go.Sy
section
variable {l:Loc}
theorem iQ(l:Loc)(x:Int):gu l.g x=(dc l x).ax:=by
 unfold gu dc Loc.g
 rw[aG,aG,az]
 cases l.turns[x.toNat]?<;>rfl
theorem vG(h:fP l=true):∀t∈l.turns,kS l.turns.length t=true:=by
 simp only[fP,av,a7]at h
 exact h.2.2
theorem l8(h:fP l=true):1≤l.turns.length∧l.turns.length≤40:=by
 simp only[fP,av,decide_eq_true_eq]at h
 exact⟨h.1,h.2.1⟩
theorem Hz{x:Int}(h:0≤x∧x < (l.turns.length:Int)):dc l x∈l.turns:=by
 unfold dc
 have bj:x.toNat < l.turns.length:=by omega
 rw[aG,aa bj]
 exact an bj
theorem Jw{n:Int}{t:jk}(h:kS n t=true):t.ax=[]∨ez n t.ax=true:=by
 unfold kS at h
 split at h
 ·simp only[av,fj]at h
  exact .inl h.2
 ·split at h
  ·simp only[av]at h
   exact .inr h.2
  ·cases h
theorem dx{n:Int}{l:List bD}(h:ez n l=true):(1≤l.length∧l.length≤6)∧(∀a∈l,ph n a=true)∧(l.map bD.label).Nodup:=by
 simp only[ez,av,decide_eq_true_eq,a7]at h
 exact⟨⟨h.1,h.2.1⟩,h.2.2.1,h.2.2.2⟩
theorem DT{n:Int}{a:bD}(h:ph n a=true):0≤a.next∧a.next < n:=by
 simp only[ph,av,decide_eq_true_eq]at h
 exact h.2.2
theorem qG(h:fP l=true)(x:Int):gu l.g x=[]∨ez l.turns.length (gu l.g x)=true:=by
 rw[iQ]
 unfold dc
 rw[aG]
 cases hx:l.turns[x.toNat]? with
 |none=>exact .inl rfl
 |some t=>exact Jw (vG h t (aj hx))
theorem GD(h:fP l=true):TK l.g∧0 < l.g.length∧∀x,((gu l.g x).map bD.label).Nodup:=by
 refine⟨fun x a ha=>?_,?_,fun x=>?_⟩
 ·rcases qG h x with h1|h1
  ·rw[h1]at ha;cases ha
  ·have:=DT ((dx h1).2.1 a ha)
   simpa[Loc.g]using this
 ·have:=l8 h;simp[Loc.g];omega
 ·rcases qG h x with h1|h1
  ·rw[h1];simp
  ·exact(dx h1).2.2
theorem FZ{n m:Int}{row:List Int}{l:List bD}(h:ez n l=true)(hr:∀a∈l,a.next∈row)(hm:(row.length:Int)=m):ez m (AP row l)=true:=by
 obtain⟨⟨h1,h2⟩,h3,h4⟩:=dx h
 have hp:=j1 l
 have hl:(AP row l).length=l.length:=by rw[mL,ak,rP]
 simp only[ez,av,decide_eq_true_eq,a7,hl]
 refine⟨h1,h2,fun a ha=>?_,?_⟩
 ·rw[mL]at ha
  obtain⟨b,hb,rfl⟩:=aL.1 ha
  have hb:=hp.mem_iff.1 hb
  have h5:=h3 b hb
  have bj:=List.idxOf_lt_length_iff.2 (hr b hb)
  simp only[ph,av,decide_eq_true_eq]at h5⊢
  refine⟨h5.1,h5.2.1,?_,?_⟩
  ·show(0:Int)≤((row.idxOf b.next:Nat):Int);omega
  ·show((row.idxOf b.next:Nat):Int) < m;omega
 ·rw[mL,qB]
  show((jr l).map bD.label).Nodup
  exact(hp.map bD.label).nodup_iff.2 h4
theorem wS(h:fP l=true):fP (ox l)=true:=by
 obtain⟨hg,h0,_⟩:=GD h
 have om:=(vQ hg h0).1
 have hlen:=om.len
 have Dh:l.g.length=l.turns.length:=by simp[Loc.g]
 have hl:=l8 h
 have C7:(ox l).turns.length=(eT l.g).length:=by simp[ox]
 obtain⟨r,VK⟩:=Ca l.g
 simp only[fP,av,decide_eq_true_eq,a7,C7]
 refine⟨by rw[VK];simp,by omega,fun t ht=>?_⟩
 obtain⟨x,hx,rfl⟩:=aL.1 (show t∈List.map _ (eT l.g)from ht)
 have dX:=Hz (l:=l) (x:=x) (by have:=om.range x hx;omega)
 have b6:=vG h _ dX
 have BG:∀a∈(dc l x).ax,a.next∈eT l.g:=fun a ha=>vR hg h0 hx (by rw[iQ];exact ha)
 unfold kS at b6⊢
 simp only
 split at b6
 ·rename_i hk
  rw[if_pos hk]
  simp only[av,fj]at b6⊢
  refine⟨b6.1,?_⟩
  rw[b6.2];rfl
 ·rename_i hk
  rw[if_neg hk]
  split at b6
  ·rename_i Tx
   rw[if_pos Tx]
   simp only[av]at b6⊢
   exact⟨b6.1,FZ b6.2 BG J⟩
  ·cases b6
end
end Go.Sy
namespace Go.Sy
theorem xF:∀{x y:List UInt8},Op.bytesLess x y=false→Op.bytesLess y x=false→x=y
 |[],[],_,_=>rfl
 |[],_::_,h,_=>by simp[Op.bytesLess]at h
 |_::_,[],_,h=>by simp[Op.bytesLess]at h
 |a::x,b::y,h1,h2=>by
  simp only[Op.bytesLess,Bool.or_eq_false_iff,decide_eq_false_iff_not,Bool.and_eq_false_iff,beq_eq_false_iff_ne,ne_eq]at h1 h2
  have ur:a=b:=by
   have h3:=h1.1;have h4:=h2.1
   rw[UInt8.lt_iff_toNat_lt]at h3 h4
   exact UInt8.toNat_inj.1 (by omega)
  subst ur
  have h5:Op.bytesLess x y=false:=by
   rcases h1.2 with h|h
   ·exact absurd J h
   ·exact h
  have h6:Op.bytesLess y x=false:=by
   rcases h2.2 with h|h
   ·exact absurd J h
   ·exact h
  rw[xF h5 h6]
theorem qy{x y:ByteArray}(h:x.toList=y.toList):x=y:=by
 rw[ByteArray.toList_eq,ByteArray.toList_eq]at h
 exact ByteArray.ext (Array.ext' h)
theorem ve{s t:ByteArray}(h1:gQ s t=false)(h2:gQ t s=false):s=t:=qy (xF h1 h2)
theorem pN{l:List bD}(h:(l.map bD.label).Nodup){a b:bD}(ha:a∈l)(hb:b∈l)(e:a.label=b.label):a=b:=by
 obtain⟨i,hi,rfl⟩:=aC.1 ha
 obtain⟨j,hj,rfl⟩:=aC.1 hb
 have cV:=bM.1 h
 rw[eP,bB]at cV
 rcases bI i j with h3|h3|h3
 ·exact absurd e (cV i j hi hj h3)
 ·subst h3;rfl
 ·exact absurd e.symm (cV j i hj hi h3)
theorem NK{l m:List bD}(hp:l.Perm m)(h:(l.map bD.label).Nodup):jr l=jr m:=by
 have h1:(jr l).Perm (jr m):=(j1 l).trans (hp.trans (j1 m).symm)
 refine h1.eq_of_pairwise (le:=fun(a b:bD)=>gQ b.label a.label=false) (fun a b ha hb h2 h3=>?_) (Q3 l) (Q3 m)
 exact pN h ((j1 l).mem_iff.1 ha) (hp.mem_iff.2 ((j1 m).mem_iff.1 hb)) (ve h3 h2)
end Go.Sy
namespace Go.Sy
abbrev bl(s:ByteArray):List UInt8:=s.data.toList
abbrev ba(l:List UInt8):ByteArray:=⟨l.toArray⟩
theorem QK(s:ByteArray):ba (bl s)=s:=rfl
theorem Rs(l:List ByteArray):(l.map bl).map ba=l:=by rw[qB];exact tU l
theorem E1(l:List (List UInt8)):(l.map ba).map bl=l:=by
 rw[qB]
 have:bl ∘ ba=id:=by funext x;simp[bl,ba]
 rw[this];exact tU l
def jN(l:List ByteArray):List ByteArray:=((l.map bl).mergeSort fun x y=>decide (x≤y)).map ba
def nh(l:List ByteArray):List ByteArray:=(Lib.compact (l.map bl)).map ba
def j2(l:List ByteArray)(s:ByteArray):List ByteArray:=nh (jN (l++[s]))
theorem Q0(s t:ByteArray):gQ s t=Op.bytesLess (bl s) (bl t):=by unfold gQ;rw[ByteArray.toList_eq,ByteArray.toList_eq]
theorem zx(x y:List UInt8):(x≤y)↔Op.bytesLess y x=false:=by
 rw[Go.Proofs.bytesLess_eq];simp
theorem DI{x y z:List UInt8}(h1:Op.bytesLess y x=false)(h2:Op.bytesLess z y=false):Op.bytesLess z x=false:=by
 cases h:Op.bytesLess z x with
 |false=>rfl
 |true=>
  exfalso
  cases h3:Op.bytesLess x y with
  |true=>have:=pd h h3;rw[h2]at this;cases this
  |false=>
   have:=xF h1 h3
   subst this
   rw[h2]at h;cases h
theorem Mv{x y z:List UInt8}(h1:Op.bytesLess y x=false)(h2:Op.bytesLess y z=true):Op.bytesLess x z=true:=by
 cases h:Op.bytesLess x y with
 |true=>exact pd h h2
 |false=>have:=xF h1 h;subst this;exact h2
theorem Mu(x y:List UInt8):Op.bytesLess y x=false∨Op.bytesLess x y=false:=by
 cases h:Op.bytesLess y x with
 |false=>exact .inl rfl
 |true=>
  refine .inr ?_
  cases h2:Op.bytesLess x y with
  |false=>rfl
  |true=>have:=pd h h2;rw[FW]at this;cases this
theorem HB(zs:List (List UInt8)):(zs.mergeSort fun x y=>decide (x≤y)).Pairwise fun a b=>Op.bytesLess b a=false:=by
 refine(List.pairwise_mergeSort (le:=fun x y:List UInt8=>decide (x≤y)) (fun a b c h1 h2=>?_) (fun a b=>?_) zs).imp fun{a b} h=>(zx a b).1 (by simpa using h)
 ·have h1:=(zx a b).1 (by simpa using h1)
  have h2:=(zx b c).1 (by simpa using h2)
  exact decide_eq_true ((zx a c).2 (DI h1 h2))
 ·rcases Mu a b with h|h
  ·rw[decide_eq_true ((zx a b).2 h)];rfl
  ·rw[decide_eq_true ((zx b a).2 h)];simp
theorem DD(d:Array (List UInt8))(hs:d.toList.Pairwise fun a b=>Op.bytesLess b a=false):∀m,m≤d.size→
 (Lib.compactUpTo d m).Pairwise (fun a b=>Op.bytesLess a b=true)∧∀x,x∈Lib.compactUpTo d m↔∃j,j < m∧d[j]! =x
 |0,_=>⟨by simp[Lib.compactUpTo],fun x=>by simp[Lib.compactUpTo]⟩
 |m+1,hm=>by
  obtain⟨h1,h2⟩:=DD d hs m (by omega)
  have hle:∀j,j < m→Op.bytesLess d[m]! d[j]! =false:=fun j hj=>by
   rw[getElem!_pos d m (by omega),getElem!_pos d j (by omega)]
   exact bB.1 hs j m (by simp;omega) (by simp;omega) hj
  rw[Lib.compactUpTo_succ]
  by_cases hk:Lib.keeps d m=true
  ·rw[if_pos hk]
   refine⟨List.pairwise_append.2 ⟨h1,List.pairwise_singleton _ _,fun a ha b hb=>?_⟩,fun x=>?_⟩
   ·rw[aq]at hb
    subst hb
    obtain⟨j,hj,rfl⟩:=(h2 a).1 ha
    have cV:d[m]!≠d[m - 1]! :=by
     simp only[Lib.keeps,decide_eq_true_eq]at hk
     rcases hk with hk|hk
     ·omega
     ·exact hk
    have h3:Op.bytesLess d[m - 1]! d[m]! =true:=by
     cases h4:Op.bytesLess d[m - 1]! d[m]! with
     |true=>rfl
     |false=>exact absurd (xF (hle (m - 1) (by omega)) h4) cV
    by_cases GR:j=m - 1
    ·subst GR;exact h3
    ·refine Mv (y:=d[m - 1]!) ?_ h3
     rw[getElem!_pos d (m - 1) (by omega),getElem!_pos d j (by omega)]
     exact bB.1 hs j (m - 1) (by simp;omega) (by simp;omega) (by omega)
   ·rw[aK,aq,h2 x]
    constructor
    ·rintro(⟨j,hj,e⟩|e)
     ·exact⟨j,by omega,e⟩
     ·exact⟨m,by omega,e.symm⟩
    ·rintro⟨j,hj,e⟩
     by_cases W2:j=m
     ·subst W2;exact .inr e.symm
     ·exact .inl ⟨j,by omega,e⟩
  ·rw[if_neg hk,et]
   refine⟨h1,fun x=>?_⟩
   rw[h2 x]
   have he:m≠0∧d[m]! =d[m - 1]! :=by
    simp only[Lib.keeps,decide_eq_true_eq,not_or,tV]at hk
    exact hk
   constructor
   ·rintro⟨j,hj,e⟩;exact⟨j,by omega,e⟩
   ·rintro⟨j,hj,e⟩
    by_cases W2:j=m
    ·subst W2;exact⟨j - 1,by omega,by rw[←he.2];exact e⟩
    ·exact⟨j,by omega,e⟩
def uH(l:List ByteArray):Prop:=l.Pairwise fun a b=>gQ a b=true
theorem yT{l:List ByteArray}{x:ByteArray}:x∈jN l↔x∈l:=by
 have hp:=(List.mergeSort_perm (l.map bl) fun x y=>decide (x≤y)).map ba
 rw[Rs]at hp
 exact hp.mem_iff
theorem sP(l:List ByteArray):(jN l).length=l.length:=by
 unfold jN;rw[ak,nY,ak]
theorem zT{l:List ByteArray}:uH (nh (jN l))∧∀x,x∈nh (jN l)↔x∈l:=by
 have hs:((jN l).map bl).toArray.toList.Pairwise fun a b=>Op.bytesLess b a=false:=by
  rw[List.toList_toArray];unfold jN;rw[E1];exact HB _
 obtain⟨h1,h2⟩:=DD _ hs ((jN l).map bl).toArray.size (ay _)
 have he:Lib.compact ((jN l).map bl)=Lib.compactUpTo ((jN l).map bl).toArray ((jN l).map bl).toArray.size:=by unfold Lib.compact;simp
 refine⟨?_,fun x=>?_⟩
 ·unfold uH nh
  rw[eP,he]
  refine h1.imp fun{a b} h=>?_
  rw[Q0];simpa[bl,ba]using h
 ·unfold nh
  rw[aL,he]
  constructor
  ·rintro⟨y,hy,rfl⟩
   obtain⟨j,hj,e⟩:=(h2 y).1 hy
   rw[getElem!_pos _ j hj]at e
   have hm:y∈(jN l).map bl:=by
    have h3:=Array.getElem_mem hj
    rw[e]at h3
    simpa using h3
   obtain⟨z,hz,rfl⟩:=aL.1 hm
   rw[QK];exact yT.1 hz
  ·intro hx
   have hm:bl x∈(jN l).map bl:=aL.2 ⟨x,yT.2 hx,rfl⟩
   refine⟨bl x,(h2 _).2 ?_,QK x⟩
   obtain⟨j,hj,e⟩:=aC.1 hm
   exact⟨j,by simpa using hj,by rw[getElem!_pos _ j (by simpa using hj)];simpa using e⟩
theorem Cd(l:List ByteArray)(s:ByteArray):uH (j2 l s):=zT.1
theorem Cc{l:List ByteArray}{s x:ByteArray}:x∈j2 l s↔x∈l∨x=s:=by
 unfold j2;rw[zT.2 x,aK,aq]
theorem tF(l:List ByteArray):(nh l).length≤l.length:=by
 unfold nh Lib.compact Lib.compactUpTo
 rw[ak,ak]
 exact dB (cR _ _) (by simp)
theorem vS(l:List ByteArray)(s:ByteArray):(j2 l s).length≤l.length+1:=by
 have h:=tF (jN (l++[s]))
 rw[sP]at h
 simpa[j2]using h
theorem p7{l:List ByteArray}(h:uH l):l.Nodup:=by
 rw[bM]
 exact h.imp fun{a b} h e=>by rw[e,lV]at h;cases h
theorem Bu{l m:List ByteArray}(hl:uH l)(hm:uH m)(h:∀x,x∈l↔x∈m):l=m:=by
 have hp:l.Perm m:=(List.perm_ext_iff_of_nodup (p7 hl) (p7 hm)).2 h
 refine hp.eq_of_pairwise (le:=fun a b=>gQ a b=true) (fun a b _ _ h1 h2=>?_) hl hm
 have:=iT h1 h2
 rw[lV]at this;cases this
end Go.Sy
