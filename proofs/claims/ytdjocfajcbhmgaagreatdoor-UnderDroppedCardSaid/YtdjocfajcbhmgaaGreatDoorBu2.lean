/- Contracts of the reference, bundle Bu2. -/
import Derived.Test.YtdjocfajcbhmgaaGreatDoorAu
import Derived.Shelf.Strings.Cut
import Derived.Test.YtdjocfajcbhmgaaGreatDoorLayp
import Derived.Test.YtdjocfajcbhmgaaGreatDoorSy8
import Derived.Test.YtdjocfajcbhmgaaGreatDoorBl1
import Derived.Test.YtdjocfajcbhmgaaGreatDoorBu1
set_option maxHeartbeats 64000000
namespace Go.Proofs
open Go.Shelf Go.RowKit Go.Lib
variable {P:Program} {ρ:Ren}
set_option maxRecDepth 100000 in
theorem Pt(L:Lays.n220 P ρ)(s:ByteArray)(hs:s.size≤9223372036854775806)(c:UInt8)(w:World):
 Calls P (ρ.f 220) #[.string s,.string ⟨#[c]⟩] w fun e w'=>e=.returned (.tuple #[.string ⟨(Lib.cut s.data.toList [c]).1.toArray⟩,.string ⟨(Lib.cut s.data.toList [c]).2.1.toArray⟩,.bool (Lib.cut s.data.toList [c]).2.2])∧∃n,w'=w.drewN n:=by
 have uU:∀w,Calls P (ρ.f 219) #[.string s,.string ⟨#[c]⟩] w fun e w'=>e=.returned (.int .i64 (Lib.index s.data.toList [c]))∧w'=w:=fun w=>by
  rw[Lib.index_one];exact Any.stringslite_Index_one {L with} s c w
 rcases Lib.indexB_cases s ⟨#[c]⟩with UK|⟨i,UK,Uo⟩
 ·obtain⟨e1,e2,e3⟩:=Lib.cutB_miss s ⟨#[c]⟩ UK
  simp only at e1 e2 e3
  rw[e1,e2,e3]
  have t3:=L.t3;have t4:=L.t4;have t9:=L.t9
  have a3:∀w,(isAgg (ρ.t 3)).run P w=.ok false w:=run_isAgg_plain L.t3 rfl;have a4:∀w,(isAgg (ρ.t 4)).run P w=.ok false w:=run_isAgg_plain L.t4 rfl;have a9:∀w,(isAgg (ρ.t 9)).run P w=.ok false w:=run_isAgg_plain L.t9 rfl
  have XM:∀args w,(callFunc (ρ.f 219) args).run P w=.ok (.enter (ρ.f 219) args) w:=enters_of L.f219 (by kernel_rfl) rfl
  have mixed:=L.mixed;have z3:=L.z3;have v3:=L.v3;have z4:=L.z4;have v4:=L.v4;have z9:=L.z9;have v9:=L.v9
  go_enter L.f220,Body.n220_ntmps ρ
  go_wp2_with (go_at_fn (ρ.f 219);refine(uU _).mono ?_;rintro e w' ⟨rfl,rfl⟩;rw[show Lib.index s.data.toList [c]=_ from UK])
  go_ret3
  exact⟨rfl,0,rfl⟩
 ·obtain⟨e1,e2,e3⟩:=Lib.cutB_hit s ⟨#[c]⟩ i UK
  simp only at e1 e2 e3
  rw[e1,e2,e3]
  have cM:(⟨#[c]⟩:ByteArray).size=1:=rfl
  rw[cM]at Uo⊢
  have c1:(0:Int)≤↑i:=by omega
  have c2:(↑i:Int)≤↑s.size:=by omega
  have c3:(0:Int)≤↑i+1:=by omega
  have c4:(↑i+1:Int)≤↑s.size:=by omega
  have wr:IntKind.i64.wrap ((↑i:Int)+1)=↑i+1:=by simp[IntKind.wrap,IntKind.bits,IntKind.signed];omega
  have t3:=L.t3;have t4:=L.t4;have t9:=L.t9
  have a3:∀w,(isAgg (ρ.t 3)).run P w=.ok false w:=run_isAgg_plain L.t3 rfl;have a4:∀w,(isAgg (ρ.t 4)).run P w=.ok false w:=run_isAgg_plain L.t4 rfl;have a9:∀w,(isAgg (ρ.t 9)).run P w=.ok false w:=run_isAgg_plain L.t9 rfl
  have XM:∀args w,(callFunc (ρ.f 219) args).run P w=.ok (.enter (ρ.f 219) args) w:=enters_of L.f219 (by kernel_rfl) rfl
  have mixed:=L.mixed;have z3:=L.z3;have v3:=L.v3;have z4:=L.z4;have v4:=L.v4;have z9:=L.z9;have v9:=L.v9
  go_enter L.f220,Body.n220_ntmps ρ
  go_wp2_with (go_at_fn (ρ.f 219);refine(uU _).mono ?_;rintro e w' ⟨rfl,rfl⟩;rw[show Lib.index s.data.toList [c]=_ from UK])
  go_region_o
  go_wp2
  go_ret3
  exact⟨rfl,1,rfl⟩
end Go.Proofs
set_option linter.unusedSimpArgs false
set_option linter.unusedVariables false
set_option linter.unusedSectionVars false
namespace Go.Sy
open Go.Proofs
set_option maxRecDepth 100000
attribute [local irreducible] SOps Goes DOps EOps
abbrev SI:ByteArray:=⟨#[46]⟩
def G9(s:ByteArray):ByteArray:=⟨(Lib.cut s.data.toList [46]).1.toArray⟩
def G8(s:ByteArray):ByteArray:=⟨(Lib.cut s.data.toList [46]).2.1.toArray⟩
def Mh(s:ByteArray):Bool:=(Lib.cut s.data.toList [46]).2.2
abbrev Ve(s:ByteArray):ST:=.fo [.one (.c (.str (G9 s))),.one (.c (.str (G8 s))),.one (.c (.bool (Mh s)))]
theorem SL(s:ByteArray)(hs:s.size≤9223372036854775806):er Tryz.prog 192 [] [C1 (.str s),C1 (.str SI)] (Ve s) []:=by
 refine⟨my (c:=_) Tryz.func192 rfl rfl,fun w M0 H Z vs dn cE=>?_⟩
 obtain⟨v,u,rfl⟩:∃v u,vs=[v,u]:=by
  match vs,cE.1 with
  |[v,u],_=>exact⟨v,u,rfl⟩
 obtain⟨v',wY,hr⟩:=cE.2 0 _ rfl
 obtain⟨u',mR,hq⟩:=cE.2 1 _ rfl
 simp only[List.getElem?_cons_zero,List.getElem?_cons_succ,Option.some.injEq]at wY mR
 subst wY;subst mR
 have hv:v=.string s:=aV.fR hr
 have hu:u=.string SI:=aV.fR hq
 subst hv;subst hu
 refine Calls.mono (Pt Tryz.laysCut s hs 46 w) ?_
 rintro e w' ⟨rfl,n,rfl⟩
 refine⟨_,rfl,⟨rfl,rfl,rfl,Nat.le_refl _,fun _ _ _=>rfl⟩,fun p hp=>by simp[bY]at hp,_,rfl,rfl,fun j c hc=>?_⟩
 match j,hc with
 |0,hc=>simp at hc;subst hc;exact⟨_,rfl,aV.str _⟩
 |1,hc=>simp at hc;subst hc;exact⟨_,rfl,aV.str _⟩
 |2,hc=>simp at hc;subst hc;exact⟨_,rfl,aV.bool _⟩
 |j+3,hc=>simp at hc
theorem Vd(s:ByteArray)(hs:s.size≤9223372036854775806):er Tryz.prog 164 [] [C1 (.str s),C1 (.str SI)] (Ve s) []:=by
 refine bn (c:=_) Tryz.func164 rfl rfl rfl (by decide) fun w M0 H Z=>?_
 repeat'(first|refine aA ?_|(refine aB ?_ ?_<;>first|exact aD|(refine aE ?_;intro hb))|refine aZ th Tryz.func164 (.inr ⟨_,rfl⟩) rfl rfl rfl ?_ rfl|(refine aR (SL s hs) [] rfl rfl rfl rfl rfl rfl rfl rfl rfl rfl ?_;refine ao th rfl ?_))
 all_goals exact .refl _
theorem QH:∀l:List UInt8,Lib.cut l [46]=(match FO l with
 |none=>(l,[],false)
 |some (a,b)=>(a,b,true))
 |[]=>by simp[Lib.cut,Lib.index_one,Lib.indexByte,FO]
 |c::l=>by
  have ih:=QH l
  have UM:=Lib.indexByte_ge l 46
  unfold Lib.cut at ih⊢
  rw[Lib.index_one]at ih⊢
  rw[Lib.indexByte,FO]
  by_cases hc:c=46
  ·subst hc;simp
  ·have hb:(c==46)=false:=by simpa using hc
   rw[if_neg hc,hb]
   simp only[Bool.false_eq_true,if_false]
   cases hq:FO l with
   |none=>
    rw[hq]at ih
    by_cases hi:0≤Lib.indexByte l 46
    ·rw[if_pos hi]at ih;simp at ih
    ·have:Lib.indexByte l 46=-1:=by omega
     simp[this]
   |some p=>
    obtain⟨a,b⟩:=p
    rw[hq]at ih
    by_cases hi:0≤Lib.indexByte l 46
    ·rw[if_pos hi]at ih
     have hn:(Lib.indexByte l 46==-1)=false:=by simp;omega
     simp only[hn,Bool.false_eq_true,if_false,Option.map_some]
     rw[if_pos (by omega)]
     simp only[Prod.mk.injEq,and_true]at ih⊢
     have h1:(Lib.indexByte l 46+1).toNat=(Lib.indexByte l 46).toNat+1:=by omega
     rw[h1,List.take_succ_cons,ih.1]
     refine⟨rfl,?_⟩
     show List.drop ((Lib.indexByte l 46).toNat+1+1) (c::l)=b
     rw[List.drop_succ_cons]
     exact ih.2
    ·rw[if_neg hi]at ih;simp at ih
theorem Jr(s:ByteArray):BQ s=(cg (G9 s)&&(!Mh s||cg (G8 s))):=by
 unfold BQ G9 G8 Mh
 rw[QH]
 cases FO s.data.toList with
 |none=>simp
 |some p=>simp
end Go.Sy
namespace Go.Sy
open Go.Proofs
set_option maxRecDepth 100000
attribute [local irreducible] SOps Goes DOps EOps
theorem zW(name:ByteArray):xC 5 name=BQ name:=by simp[xC]
theorem zV{k:Int}(name:ByteArray)(h0:0≤k)(h5:k < 5):xC k name=decide (name=⟨#[]⟩):=by
 unfold xC
 rw[if_neg (by omega)]
 simp[h0,h5]
theorem Pz{k:Int}(name:ByteArray)(h:k < 0∨5 < k):xC k name=false:=by
 unfold xC
 rw[if_neg (by omega)]
 rcases h with h|h
 ·simp;omega
 ·simp;omega
theorem IW(k:Int)(name:ByteArray)(hs:name.size≤9223372036854775806):er Tryz.prog 141 [] [Ag [.int .i64 k,.str name]] (Rv (.bool (xC k name))) []:=by
 refine bn (c:=_) Tryz.func141 rfl rfl rfl (by decide) fun w M0 H Z=>?_
 repeat'(first|refine aA ?_|(refine aB ?_ ?_<;>first|exact aD|(refine aE ?_;intro hb))|refine aZ th Tryz.func141 (.inr ⟨_,rfl⟩) rfl rfl rfl ?_ rfl|((first|refine aR (Vd name hs) [] rfl rfl rfl rfl rfl rfl rfl rfl rfl rfl ?_|refine aR (qq (G9 name)) [] rfl rfl rfl rfl rfl rfl rfl rfl rfl rfl ?_|refine aR (qq (G8 name)) [] rfl rfl rfl rfl rfl rfl rfl rfl rfl rfl ?_);refine ao th rfl ?_))
 all_goals first|exact fx (by rw[Pz name (by omega)])|exact fx (by rw[zV name (by omega) (by omega)])|exact fx (by rw[show k=5 by assumption,zW,Jr];simp[*])
def pg(n:Int)(l:List bD):Bool:=l.all (ph n)&&decide ((l.map bD.label).Nodup)
theorem F0(n:Int)(l:List bD)(a:bD):pg n (l++[a])=(pg n l&&(ph n a&&!ks (l.map bD.label) a.label)):=by
 unfold pg
 rw[List.all_append,List.map_append]
 simp only[List.all_cons,List.all_nil,Bool.and_true,List.map_cons,List.map_nil]
 have hd:((l.map bD.label)++[a.label]).Nodup↔(l.map bD.label).Nodup∧a.label∉l.map bD.label:=by
  rw[List.nodup_append]
  constructor
  ·rintro⟨h1,_,h3⟩
   exact⟨h1,fun h=>h3 _ h _ (by simp) rfl⟩
  ·rintro⟨h1,h2⟩
   exact⟨h1,by simp,fun x hx y hy e=>by simp at hy;subst hy;exact h2 (e▸hx)⟩
 have hq:decide (((l.map bD.label)++[a.label]).Nodup)=(decide ((l.map bD.label).Nodup)&&!ks (l.map bD.label) a.label):=by
  by_cases h:a.label∈l.map bD.label
  ·have hm:ks (l.map bD.label) a.label=true:=by simpa[ks]using h
   rw[hm,decide_eq_false fun hn=>(hd.1 hn).2 h];simp
  ·have hm:ks (l.map bD.label) a.label=false:=by simpa[ks]using h
   rw[hm,Bool.not_false,Bool.and_true]
   exact decide_eq_decide.2 ⟨fun hn=>(hd.1 hn).1,fun hn=>hd.2 ⟨hn,h⟩⟩
 rw[hq]
 cases l.all (ph n)<;>cases ph n a<;>cases ks (l.map bD.label) a.label<;>simp
theorem DR{n:Int}{l:List bD}{i:Nat}(hi:i < l.length)(ht:pg n (l.take (i+1))=false):pg n l=false:=by
 cases h:pg n l with
 |false=>rfl
 |true=>
  unfold pg at h ht
  simp only[Bool.and_eq_true,decide_eq_true_eq]at h
  have h1:(l.take (i+1)).all (ph n)=true:=List.all_eq_true.2 fun x hx=>List.all_eq_true.1 h.1 x (List.mem_of_mem_take hx)
  have h2:((l.take (i+1)).map bD.label).Nodup:=by rw[List.map_take];exact(List.take_sublist _ _).nodup h.2
  rw[h1,decide_eq_true h2]at ht;cases ht
theorem tc{a b:List (FV×FV)}(h:a=b):Jk (.fw a) (.fw b):=by subst h;exact .refl _
theorem mK{α:Type}[DecidableEq α]{l:List α}{a:α}(h:ks l a=false):a∉l:=by simpa[ks]using h
theorem su(n:Int)(l:List bD):ez n l=(decide (1≤l.length)&&(decide (l.length≤6)&&pg n l)):=rfl
theorem S5(l:List bD)(n:Int)(hs:∀a∈l,a.name.size≤9223372036854775806):er Tryz.prog 104 [] [C1 (fM l),C1 (.int .i64 n)] (Rv (.bool (ez n l))) []:=by
 refine bn (c:=_) Tryz.func104 rfl rfl rfl (by decide) fun w M0 H Z=>?_
 refine il 0 rfl fun nw=>?_
 simp only[List.length_map]at nw
 repeat'(first|refine aA ?_|(refine aB ?_ ?_<;>first|exact aD|(refine aE ?_;intro hb))|refine aZ th Tryz.func104 (.inr ⟨_,rfl⟩) rfl rfl rfl ?_ rfl)
 ·exact fx (by rw[su];simp;omega)
 ·exact fx (by rw[su];simp;omega)
 refine bE (fun i:Nat=>i≤l.length∧pg n (l.take i)=true)
  (fun i=>[(0,.v (C1 (fM l))),(1,.v (C1 (.int .i64 n))),(5,.v (.one (.mp 16))),(17,.v (C1 (fM l))),(18,.v (C1 (.int .i64 (l.length:Int)))),(19,.v (C1 (.int .i64 (i:Int))))])
  (fun i=>[(16,.fw (dI iC (qJ ((l.take i).map bD.label))))])
  (fun i=>l.length - i) 0 ⟨Nat.zero_le _,rfl⟩
  aH (fun i hi ih=>?_)
 obtain⟨hi,b6⟩:=hi
 by_cases bj:i < l.length
 ·have hx:(l.map bD.cs)[i]? =some (l[i]).cs:=by simp[bj]
  have Wy:=hs l[i] (List.getElem_mem bj)
  have cZ:pg n (l.take (i+1))=(ph n l[i]&&!ks ((l.take i).map bD.label) l[i].label):=by
   rw[List.take_succ_eq_append_getElem bj,F0,b6,Bool.true_and]
  have gA:pg n (l.take (i+1))=false→ez n l=false:=fun h=>by rw[su,DR bj h];simp
  have jS:dE (qJ ((l.take i).map bD.label)) l[i].label (.bool false)=.bool (ks ((l.take i).map bD.label) l[i].label):=yU _ _
  obtain⟨mb,Tv⟩:∃mb,ks ((l.take i).map bD.label) l[i].label=mb:=⟨_,rfl⟩
  rw[Tv]at cZ jS
  repeat'(first|refine aA ?_|(refine aB ?_ ?_<;>first|exact aD|(refine aE ?_;intro hb))|refine aZ th Tryz.func104 (.inr ⟨_,rfl⟩) rfl rfl rfl ?_ rfl|((first|refine bO th rfl rfl rfl rfl rfl rfl rfl rfl rfl i _ rfl hx ?_|refine aR (qq l[i].label) [] rfl rfl rfl rfl rfl rfl rfl rfl rfl rfl ?_|refine aR (IW l[i].kind l[i].name Wy) [] rfl rfl rfl rfl rfl rfl rfl rfl rfl rfl ?_|(refine vc th (m:=qJ ((l.take i).map bD.label)) rfl rfl rfl rfl rfl rfl rfl rfl rfl rfl rfl rfl ?_;rw[jS])|refine Et th (m:=qJ ((l.take i).map bD.label)) (.inl rfl) rfl rfl rfl rfl rfl rfl rfl rfl ?_|refine bH rfl rfl rfl rfl rfl rfl (by omega) ?_);refine ao th rfl ?_))
  all_goals first
   |exact fx (by rw[gA (by rw[cZ];simp[ph, *]<;>omega)])
   |(have cT:=ih (i+1) ⟨bj,by rw[cZ];simp[ph, *]<;>omega⟩ (by omega)
     exact aS (h2:=by exact⟨⟨_,rfl,tc (by rw[BZ (mK (Tv.trans (by assumption))),List.take_succ_eq_append_getElem bj,List.map_append];rfl)⟩,trivial⟩) cT)
 ·have gv:i=l.length:=by omega
  subst gv
  rw[List.take_length]at b6
  repeat'(first|refine aA ?_|(refine aB ?_ ?_<;>first|exact aD|(refine aE ?_;intro hb))|refine aZ th Tryz.func104 (.inr ⟨_,rfl⟩) rfl rfl rfl ?_ rfl)
  exact fx (by rw[su,b6];simp;omega)
end Go.Sy
namespace Go.Sy
open Go.Proofs
set_option maxRecDepth 100000
attribute [local irreducible] SOps Goes DOps EOps
abbrev XS:Nat:=9223372036854775806
def Hs(l:List bD):Prop:=∀a∈l,a.name.size≤XS
def pt(l:Loc):Prop:=∀t∈l.turns,Hs t.ax
theorem l9{α:Type}(l:List α):l.isEmpty=!decide ((0:Int) < (l.length:Int)):=by cases l<;>simp<;>omega
def sI(n:Int)(l:List jk):Bool:=l.all (kS n)
theorem BS{n:Int}{l:List jk}{i:Nat}(bj:i < l.length)(b6:sI n (l.take i)=true):sI n (l.take (i+1))=kS n l[i]:=by
 unfold sI at *
 rw[List.take_succ_eq_append_getElem bj,List.all_append,b6];simp
theorem Al{n:Int}{l:List jk}{i:Nat}(hi:i < l.length)(ht:kS n l[i]=false):sI n l=false:=
 List.all_eq_false.2 ⟨l[i],List.getElem_mem hi,by rw[ht];decide⟩
theorem AT(l:Loc):fP l=(decide (1≤l.turns.length)&&(decide (l.turns.length≤40)&&sI l.turns.length l.turns)):=rfl
theorem Am{n:Int}{t:jk}(h:t.kind=0):kS n t=(decide (t.peer=⟨#[]⟩)&&t.ax.isEmpty):=by unfold kS;rw[if_pos h]
theorem Ga{n:Int}{t:jk}(h0:t.kind≠0)(h:t.kind=1∨t.kind=2):kS n t=(cg t.peer&&ez n t.ax):=by unfold kS;rw[if_neg h0,if_pos h]
theorem Nb{n:Int}{t:jk}(h0:t.kind≠0)(h:¬(t.kind=1∨t.kind=2)):kS n t=false:=by unfold kS;rw[if_neg h0,if_neg h]
theorem An(l:Loc)(hs:pt l):er Tryz.prog 57 [] [Ag l.cs] (Rv (.bool (fP l))) []:=by
 refine bn (c:=_) Tryz.func57 rfl rfl rfl (by decide) fun w M0 H Z=>?_
 repeat'(first|(refine Bj 1 1 rfl rfl fun nw=>?_;simp only[List.length_map]at nw;refine mY ?_;refine ao th rfl ?_)|refine aA ?_|(refine aB ?_ ?_<;>first|exact aD|(refine aE ?_;intro hb))|refine aZ th Tryz.func57 (.inr ⟨_,rfl⟩) rfl rfl rfl ?_ rfl)
 ·exact fx (by rw[AT];simp;omega)
 ·exact fx (by rw[AT];simp;omega)
 refine bE (fun i:Nat=>i≤l.turns.length∧sI l.turns.length (l.turns.take i)=true)
  (fun i=>[(1,.v (.one (.ptr 1 0))),(16,.v (C1 (sJ l.turns))),(17,.v (C1 (.int .i64 (l.turns.length:Int)))),(18,.v (C1 (.int .i64 (i:Int))))])
  (fun i=>[(1,.box (l.cs.map SC.c))])
  (fun i=>l.turns.length - i) 0 ⟨Nat.zero_le _,rfl⟩
  aH (fun i hi ih=>?_)
 obtain⟨hi,b6⟩:=hi
 by_cases bj:i < l.turns.length
 ·have hx:(l.turns.map jk.cs)[i]? =some (l.turns[i]).cs:=by simp[bj]
  have Wy:=hs l.turns[i] (List.getElem_mem bj)
  have cZ:=BS bj b6
  have gA:kS l.turns.length l.turns[i]=false→fP l=false:=fun h=>by rw[AT,Al bj h];simp
  repeat'(first|refine aA ?_|(refine aB ?_ ?_<;>first|exact aD|(refine aE ?_;intro hb))|refine aZ th Tryz.func57 (.inr ⟨_,rfl⟩) rfl rfl rfl ?_ rfl|((first|refine bO th rfl rfl rfl rfl rfl rfl rfl rfl rfl i _ rfl hx ?_|refine aR (qq l.turns[i].peer) [] rfl rfl rfl rfl rfl rfl rfl rfl rfl rfl ?_|refine aR (S5 l.turns[i].ax ((l.turns.map jk.cs).length:Int) Wy) [] rfl rfl rfl rfl rfl rfl rfl rfl rfl rfl ?_|refine bH rfl rfl rfl rfl rfl rfl (by omega) ?_);refine ao th rfl ?_))
  all_goals first
   |exact fx (by rw[gA (by rw[Am (by assumption),decide_eq_false (by assumption)];rfl)])
   |exact fx (by rw[gA (by rw[Am (by assumption),l9,decide_eq_true (p:=(0:Int) < _) (by assumption)];simp)])
   |exact fx (by rw[gA (by rw[Ga (by omega) (by omega)];simp[*])])
   |exact fx (by rw[gA (Nb (by omega) (by omega))])
   |(have cT:=ih (i+1) ⟨bj,by rw[cZ];first|(rw[Am (by assumption),l9,decide_eq_false (p:=(0:Int) < _) (by assumption),decide_eq_true (by assumption)];rfl)|(rw[Ga (by omega) (by omega)];simp[*];done)⟩ (by omega)
     exact aS cT)
 ·have gv:i=l.turns.length:=by omega
  subst gv
  rw[List.take_length]at b6
  repeat'(first|refine aA ?_|(refine aB ?_ ?_<;>first|exact aD|(refine aE ?_;intro hb))|refine aZ th Tryz.func57 (.inr ⟨_,rfl⟩) rfl rfl rfl ?_ rfl)
  exact fx (by rw[AT,b6];simp;omega)
end Go.Sy
