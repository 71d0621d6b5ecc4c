/- Contracts of the reference, bundle Bu2. -/
import Derived.Shelf.Strings.Cut
import Derived.Test.YtdjocfajcbhmgaaGreatDoorLayp
import Derived.Test.YtdjocfajcbhmgaaGreatDoorSy8
import Derived.Test.YtdjocfajcbhmgaaGreatDoorBl1
import Derived.Test.YtdjocfajcbhmgaaGreatDoorBu1
namespace Go.Proofs
open Go.Shelf Go.RowKit Go.Lib
variable {P:Program} {ρ:Ren}
set_option maxHeartbeats 2000000 in
set_option maxRecDepth 100000 in
theorem Lw(L:Lays.n220 P ρ)(s:ByteArray)(hs:s.size≤9223372036854775806)(c:UInt8)(w:World):
 Calls P (ρ.f 220) #[.string s,.string ⟨#[c]⟩] w fun e w'=>e=.returned (.tuple #[.string ⟨(Lib.cut s.data.toList [c]).1.toArray⟩,.string ⟨(Lib.cut s.data.toList [c]).2.1.toArray⟩,.bool (Lib.cut s.data.toList [c]).2.2])∧∃n,w'=w.drewN n:=by
 have vI:∀w,Calls P (ρ.f 219) #[.string s,.string ⟨#[c]⟩] w fun e w'=>e=.returned (.int .i64 (Lib.index s.data.toList [c]))∧w'=w:=fun w=>by
  rw[Lib.index_one];exact Any.stringslite_Index_one {L with} s c w
 rcases Lib.indexB_cases s ⟨#[c]⟩with QV|⟨i,QV,Qn⟩
 ·obtain⟨e1,e2,e3⟩:=Lib.cutB_miss s ⟨#[c]⟩ QV
  simp only at e1 e2 e3
  rw[e1,e2,e3]
  have t3:=L.t3;have t4:=L.t4;have t9:=L.t9
  have a3:∀w,(isAgg (ρ.t 3)).run P w=.ok false w:=run_isAgg_plain L.t3 rfl;have a4:∀w,(isAgg (ρ.t 4)).run P w=.ok false w:=run_isAgg_plain L.t4 rfl;have a9:∀w,(isAgg (ρ.t 9)).run P w=.ok false w:=run_isAgg_plain L.t9 rfl
  have Ui:∀args w,(callFunc (ρ.f 219) args).run P w=.ok (.enter (ρ.f 219) args) w:=enters_of L.f219 (by kernel_rfl) rfl
  have mixed:=L.mixed;have z3:=L.z3;have v3:=L.v3;have z4:=L.z4;have v4:=L.v4;have z9:=L.z9;have v9:=L.v9
  go_enter L.f220,Body.n220_ntmps ρ
  go_wp2_with (go_at_fn (ρ.f 219);refine(vI _).mono ?_;rintro e w' ⟨rfl,rfl⟩;rw[show Lib.index s.data.toList [c]=_ from QV])
  go_ret3
  exact⟨rfl,0,rfl⟩
 ·obtain⟨e1,e2,e3⟩:=Lib.cutB_hit s ⟨#[c]⟩ i QV
  simp only at e1 e2 e3
  rw[e1,e2,e3]
  have c8:(⟨#[c]⟩:ByteArray).size=1:=rfl
  rw[c8]at Qn⊢
  have c1:(0:Int)≤↑i:=by omega
  have c2:(↑i:Int)≤↑s.size:=by omega
  have c3:(0:Int)≤↑i+1:=by omega
  have c4:(↑i+1:Int)≤↑s.size:=by omega
  have wr:IntKind.i64.wrap ((↑i:Int)+1)=↑i+1:=by simp[IntKind.wrap,IntKind.bits,IntKind.signed];omega
  have t3:=L.t3;have t4:=L.t4;have t9:=L.t9
  have a3:∀w,(isAgg (ρ.t 3)).run P w=.ok false w:=run_isAgg_plain L.t3 rfl;have a4:∀w,(isAgg (ρ.t 4)).run P w=.ok false w:=run_isAgg_plain L.t4 rfl;have a9:∀w,(isAgg (ρ.t 9)).run P w=.ok false w:=run_isAgg_plain L.t9 rfl
  have Ui:∀args w,(callFunc (ρ.f 219) args).run P w=.ok (.enter (ρ.f 219) args) w:=enters_of L.f219 (by kernel_rfl) rfl
  have mixed:=L.mixed;have z3:=L.z3;have v3:=L.v3;have z4:=L.z4;have v4:=L.v4;have z9:=L.z9;have v9:=L.v9
  go_enter L.f220,Body.n220_ntmps ρ
  go_wp2_with (go_at_fn (ρ.f 219);refine(vI _).mono ?_;rintro e w' ⟨rfl,rfl⟩;rw[show Lib.index s.data.toList [c]=_ from QV])
  go_region_o
  go_wp2
  go_ret3
  exact⟨rfl,1,rfl⟩
end Go.Proofs
set_option linter.unusedSimpArgs false
set_option linter.unusedVariables false
set_option linter.unusedSectionVars false
namespace Go.Sy
open Go.Proofs
set_option maxRecDepth 100000
attribute [local irreducible] SOps Goes DOps EOps
abbrev OS:ByteArray:=⟨#[46]⟩
def D7(s:ByteArray):ByteArray:=⟨(Lib.cut s.data.toList [46]).1.toArray⟩
def D6(s:ByteArray):ByteArray:=⟨(Lib.cut s.data.toList [46]).2.1.toArray⟩
def IW(s:ByteArray):Bool:=(Lib.cut s.data.toList [46]).2.2
abbrev Rp(s:ByteArray):ST:=.gE [.one (.c (.str (D7 s))),.one (.c (.str (D6 s))),.one (.c (.bool (IW s)))]
theorem OT(s:ByteArray)(hs:s.size≤9223372036854775806):dy Tryz.prog 192 [] [C1 (.str s),C1 (.str OS)] (Rp s) []:=by
 refine⟨nR (c:=_) Tryz.func192 rfl rfl,fun w M0 H Z vs dp cE=>?_⟩
 obtain⟨v,u,rfl⟩:∃v u,vs=[v,u]:=by
  match vs,cE.1 with
  |[v,u],_=>exact⟨v,u,rfl⟩
 obtain⟨v',yh,hr⟩:=cE.2 0 _ rfl
 obtain⟨u',lY,hq⟩:=cE.2 1 _ rfl
 simp only[List.getElem?_cons_zero,List.getElem?_cons_succ,Option.some.injEq]at yh lY
 subst yh;subst lY
 have hv:v=.string s:=a7.fo hr
 have hu:u=.string OS:=a7.fo hq
 subst hv;subst hu
 refine Calls.mono (Lw Tryz.laysCut s hs 46 w) ?_
 rintro e w' ⟨rfl,n,rfl⟩
 refine⟨_,rfl,⟨rfl,rfl,rfl,Nat.le_refl _,fun _ _ _=>rfl⟩,fun p hp=>by simp[bU]at hp,_,rfl,rfl,fun j c hc=>?_⟩
 match j,hc with
 |0,hc=>simp at hc;subst hc;exact⟨_,rfl,a7.str _⟩
 |1,hc=>simp at hc;subst hc;exact⟨_,rfl,a7.str _⟩
 |2,hc=>simp at hc;subst hc;exact⟨_,rfl,a7.bool _⟩
 |j+3,hc=>simp at hc
theorem Ro(s:ByteArray)(hs:s.size≤9223372036854775806):dy Tryz.prog 164 [] [C1 (.str s),C1 (.str OS)] (Rp s) []:=by
 refine bd (c:=_) Tryz.func164 rfl rfl rfl (by decide) fun w M0 H Z=>?_
 repeat'(first|refine bH rfl ?_|(refine al ?_;refine aj th rfl ?_)|(refine au mix rfl rfl ?_;refine ak th rfl ?_)|(refine ao mix rfl rfl ?_;refine ay th rfl ?_)|refine SOps.nil ?_|refine DOps.nil ?_|refine EOps.nil ?_ rfl rfl|((first|refine aq rfl rfl ?_ ?_|refine av rfl rfl rfl ?_ ?_|refine aU rfl ?_ ?_)<;>intro hb<;>(try simp only[aF]at hb)<;>first|(exfalso;omega)|refine aj th rfl ?_|refine ak th rfl ?_|skip)|refine aT th Tryz.func164 (.inr ⟨_,rfl⟩) rfl rfl rfl ?_ rfl|(refine aS (OT s hs) [] rfl rfl rfl rfl rfl rfl rfl rfl rfl rfl ?_;refine aj th rfl ?_))
 all_goals exact .refl _
theorem MH:∀l:List UInt8,Lib.cut l [46]=(match CO l with
 |none=>(l,[],false)
 |some (a,b)=>(a,b,true))
 |[]=>by simp[Lib.cut,Lib.index_one,Lib.indexByte,CO]
 |c::l=>by
  have ih:=MH l
  have R3:=Lib.indexByte_ge l 46
  unfold Lib.cut at ih⊢
  rw[Lib.index_one]at ih⊢
  rw[Lib.indexByte,CO]
  by_cases hc:c=46
  ·subst hc;simp
  ·have hb:(c==46)=false:=by simpa using hc
   rw[if_neg hc,hb]
   simp only[Bool.false_eq_true,if_false]
   cases hq:CO l with
   |none=>
    rw[hq]at ih
    by_cases hi:0≤Lib.indexByte l 46
    ·rw[if_pos hi]at ih;simp at ih
    ·have:Lib.indexByte l 46=-1:=by omega
     simp[this]
   |some p=>
    obtain⟨a,b⟩:=p
    rw[hq]at ih
    by_cases hi:0≤Lib.indexByte l 46
    ·rw[if_pos hi]at ih
     have hn:(Lib.indexByte l 46==-1)=false:=by simp;omega
     simp only[hn,Bool.false_eq_true,if_false,Option.map_some]
     rw[if_pos (by omega)]
     simp only[Prod.mk.injEq,and_true]at ih⊢
     have h1:(Lib.indexByte l 46+1).toNat=(Lib.indexByte l 46).toNat+1:=by omega
     rw[h1,List.take_succ_cons,ih.1]
     refine⟨rfl,?_⟩
     show List.drop ((Lib.indexByte l 46).toNat+1+1) (c::l)=b
     rw[List.drop_succ_cons]
     exact ih.2
    ·rw[if_neg hi]at ih;simp at ih
theorem Gc(s:ByteArray):y1 s=(bZ (D7 s)&&(!IW s||bZ (D6 s))):=by
 unfold y1 D7 D6 IW
 rw[MH]
 cases CO s.data.toList with
 |none=>simp
 |some p=>simp
end Go.Sy
namespace Go.Sy
open Go.Proofs
set_option maxRecDepth 100000
attribute [local irreducible] SOps Goes DOps EOps
theorem xo(name:ByteArray):uV 5 name=y1 name:=by simp[uV]
theorem xn{k:Int}(name:ByteArray)(h0:0≤k)(h5:k < 5):uV k name=decide (name=⟨#[]⟩):=by
 unfold uV
 rw[if_neg (by omega)]
 simp[h0,h5]
theorem LB{k:Int}(name:ByteArray)(h:k < 0∨5 < k):uV k name=false:=by
 unfold uV
 rw[if_neg (by omega)]
 rcases h with h|h
 ·simp;omega
 ·simp;omega
set_option maxHeartbeats 4000000 in
theorem FC(k:Int)(name:ByteArray)(hs:name.size≤9223372036854775806):dy Tryz.prog 141 [] [Ag [.int .i64 k,.str name]] (Rv (.bool (uV k name))) []:=by
 refine bd (c:=_) Tryz.func141 rfl rfl rfl (by decide) fun w M0 H Z=>?_
 repeat'(first|refine bH rfl ?_|(refine al ?_;refine aj th rfl ?_)|(refine au mix rfl rfl ?_;refine ak th rfl ?_)|(refine ao mix rfl rfl ?_;refine ay th rfl ?_)|refine SOps.nil ?_|refine DOps.nil ?_|refine EOps.nil ?_ rfl rfl|((first|refine aq rfl rfl ?_ ?_|refine av rfl rfl rfl ?_ ?_|refine aU rfl ?_ ?_)<;>intro hb<;>(try simp only[aF]at hb)<;>first|(exfalso;omega)|refine aj th rfl ?_|refine ak th rfl ?_|skip)|refine aT th Tryz.func141 (.inr ⟨_,rfl⟩) rfl rfl rfl ?_ rfl|((first|refine aS (Ro name hs) [] rfl rfl rfl rfl rfl rfl rfl rfl rfl rfl ?_|refine aS (nB (D7 name)) [] rfl rfl rfl rfl rfl rfl rfl rfl rfl rfl ?_|refine aS (nB (D6 name)) [] rfl rfl rfl rfl rfl rfl rfl rfl rfl rfl ?_);refine aj th rfl ?_))
 all_goals first|exact fi (by rw[LB name (by omega)])|exact fi (by rw[xn name (by omega) (by omega)])|exact fi (by rw[show k=5 by assumption,xo,Gc];simp[*])
def nW(n:Int)(l:List bM):Bool:=l.all (nX n)&&decide ((l.map bM.label).Nodup)
theorem CY(n:Int)(l:List bM)(a:bM):nW n (l++[a])=(nW n l&&(nX n a&&!oR (l.map bM.label) a.label)):=by
 unfold nW
 rw[List.all_append,List.map_append]
 simp only[List.all_cons,List.all_nil,Bool.and_true,List.map_cons,List.map_nil]
 have hd:((l.map bM.label)++[a.label]).Nodup↔(l.map bM.label).Nodup∧a.label∉l.map bM.label:=by
  rw[List.nodup_append]
  constructor
  ·rintro⟨h1,_,h3⟩
   exact⟨h1,fun h=>h3 _ h _ (by simp) rfl⟩
  ·rintro⟨h1,h2⟩
   exact⟨h1,by simp,fun x hx y hy e=>by simp at hy;subst hy;exact h2 (e▸hx)⟩
 have hq:decide (((l.map bM.label)++[a.label]).Nodup)=(decide ((l.map bM.label).Nodup)&&!oR (l.map bM.label) a.label):=by
  by_cases h:a.label∈l.map bM.label
  ·have hm:oR (l.map bM.label) a.label=true:=by simpa[oR]using h
   rw[hm,decide_eq_false fun hn=>(hd.1 hn).2 h];simp
  ·have hm:oR (l.map bM.label) a.label=false:=by simpa[oR]using h
   rw[hm,Bool.not_false,Bool.and_true]
   exact decide_eq_decide.2 ⟨fun hn=>(hd.1 hn).1,fun hn=>hd.2 ⟨hn,h⟩⟩
 rw[hq]
 cases l.all (nX n)<;>cases nX n a<;>cases oR (l.map bM.label) a.label<;>simp
theorem Bc{n:Int}{l:List bM}{i:Nat}(hi:i < l.length)(ht:nW n (l.take (i+1))=false):nW n l=false:=by
 cases h:nW n l with
 |false=>rfl
 |true=>
  unfold nW at h ht
  simp only[Bool.and_eq_true,decide_eq_true_eq]at h
  have h1:(l.take (i+1)).all (nX n)=true:=List.all_eq_true.2 fun x hx=>List.all_eq_true.1 h.1 x (List.mem_of_mem_take hx)
  have h2:((l.take (i+1)).map bM.label).Nodup:=by rw[List.map_take];exact(List.take_sublist _ _).nodup h.2
  rw[h1,decide_eq_true h2]at ht;cases ht
theorem HH{a b:List (FV×FV)}(h:a=b):F5 (.lo a) (.lo b):=by subst h;exact .refl _
theorem wQ{α:Type}[DecidableEq α]{l:List α}{a:α}(h:oR l a=false):a∉l:=by simpa[oR]using h
theorem qL(n:Int)(l:List bM):eW n l=(decide (1≤l.length)&&(decide (l.length≤6)&&nW n l)):=rfl
set_option maxHeartbeats 8000000 in
theorem O4(l:List bM)(n:Int)(hs:∀a∈l,a.name.size≤9223372036854775806):dy Tryz.prog 104 [] [C1 (kc l),C1 (.int .i64 n)] (Rv (.bool (eW n l))) []:=by
 refine bd (c:=_) Tryz.func104 rfl rfl rfl (by decide) fun w M0 H Z=>?_
 refine gl 0 rfl fun mT=>?_
 simp only[List.length_map]at mT
 repeat'(first|refine bH rfl ?_|(refine al ?_;refine aj th rfl ?_)|(refine au mix rfl rfl ?_;refine ak th rfl ?_)|(refine ao mix rfl rfl ?_;refine ay th rfl ?_)|refine SOps.nil ?_|refine DOps.nil ?_|refine EOps.nil ?_ rfl rfl|((first|refine aq rfl rfl ?_ ?_|refine av rfl rfl rfl ?_ ?_|refine aU rfl ?_ ?_)<;>intro hb<;>(try simp only[aF]at hb)<;>first|(exfalso;omega)|refine aj th rfl ?_|refine ak th rfl ?_|skip)|refine aT th Tryz.func104 (.inr ⟨_,rfl⟩) rfl rfl rfl ?_ rfl)
 ·exact fi (by rw[qL];simp;omega)
 ·exact fi (by rw[qL];simp;omega)
 refine bE (fun i:Nat=>i≤l.length∧nW n (l.take i)=true)
  (fun i=>[(0,.v (C1 (kc l))),(1,.v (C1 (.int .i64 n))),(5,.v (.one (.mp 16))),(17,.v (C1 (kc l))),(18,.v (C1 (.int .i64 (l.length:Int)))),(19,.v (C1 (.int .i64 (i:Int))))])
  (fun i=>[(16,.lo (gI Ep (ph ((l.take i).map bM.label))))])
  (fun i=>l.length - i) 0 ⟨Nat.zero_le _,rfl⟩
  (fun a w h=>h.sub (by exact⟨⟨_,rfl,.refl _⟩,⟨_,rfl,.refl _⟩,⟨_,rfl,.refl _⟩,⟨_,rfl,.refl _⟩,⟨_,rfl,aC (by simp)⟩,⟨_,rfl,aC rfl⟩,trivial⟩) (by exact⟨⟨_,rfl,.refl _⟩,trivial⟩) rfl rfl rfl) (fun i hi ih=>?_)
 obtain⟨hi,b7⟩:=hi
 by_cases bo:i < l.length
 ·have hx:(l.map bM.cs)[i]? =some (l[i]).cs:=by simp[bo]
  have SY:=hs l[i] (List.getElem_mem bo)
  have eu:nW n (l.take (i+1))=(nX n l[i]&&!oR ((l.take i).map bM.label) l[i].label):=by
   rw[List.take_succ_eq_append_getElem bo,CY,b7,Bool.true_and]
  have fO:nW n (l.take (i+1))=false→eW n l=false:=fun h=>by rw[qL,Bc bo h];simp
  have uD:iU (ph ((l.take i).map bM.label)) l[i].label (.bool false)=.bool (oR ((l.take i).map bM.label) l[i].label):=wk _ _
  obtain⟨mb,Pq⟩:∃mb,oR ((l.take i).map bM.label) l[i].label=mb:=⟨_,rfl⟩
  rw[Pq]at eu uD
  repeat'(first|refine bH rfl ?_|(refine al ?_;refine aj th rfl ?_)|(refine au mix rfl rfl ?_;refine ak th rfl ?_)|(refine ao mix rfl rfl ?_;refine ay th rfl ?_)|refine SOps.nil ?_|refine DOps.nil ?_|refine EOps.nil ?_ rfl rfl|((first|refine aq rfl rfl ?_ ?_|refine av rfl rfl rfl ?_ ?_|refine aU rfl ?_ ?_)<;>intro hb<;>(try simp only[aF]at hb)<;>first|(exfalso;omega)|refine aj th rfl ?_|refine ak th rfl ?_|skip)|refine aT th Tryz.func104 (.inr ⟨_,rfl⟩) rfl rfl rfl ?_ rfl|((first|refine ch th rfl rfl rfl rfl rfl rfl rfl rfl rfl i _ rfl hx ?_|refine aS (nB l[i].label) [] rfl rfl rfl rfl rfl rfl rfl rfl rfl rfl ?_|refine aS (FC l[i].kind l[i].name SY) [] rfl rfl rfl rfl rfl rfl rfl rfl rfl rfl ?_|(refine xJ th (m:=ph ((l.take i).map bM.label)) rfl rfl rfl rfl rfl rfl rfl rfl rfl rfl rfl rfl ?_;rw[uD])|refine Gx th (m:=ph ((l.take i).map bM.label)) (.inl rfl) rfl rfl rfl rfl rfl rfl rfl rfl ?_|refine bO rfl rfl rfl rfl rfl rfl (by omega) ?_);refine aj th rfl ?_))
  all_goals first
   |exact fi (by rw[fO (by rw[eu];simp[nX, *]<;>omega)])
   |(have cS:=ih (i+1) ⟨bo,by rw[eu];simp[nX, *]<;>omega⟩ (by omega)
     exact bJ (by exact⟨⟨_,rfl,.refl _⟩,⟨_,rfl,.refl _⟩,⟨_,rfl,.refl _⟩,⟨_,rfl,.refl _⟩,⟨_,rfl,.refl _⟩,⟨_,rfl,aC (by omega)⟩,trivial⟩)
      (by exact⟨⟨_,rfl,HH (by rw[zf (wQ (Pq.trans (by assumption))),List.take_succ_eq_append_getElem bo,List.map_append];rfl)⟩,trivial⟩) rfl rfl rfl cS)
 ·have gn:i=l.length:=by omega
  subst gn
  rw[List.take_length]at b7
  repeat'(first|refine bH rfl ?_|(refine al ?_;refine aj th rfl ?_)|(refine au mix rfl rfl ?_;refine ak th rfl ?_)|(refine ao mix rfl rfl ?_;refine ay th rfl ?_)|refine SOps.nil ?_|refine DOps.nil ?_|refine EOps.nil ?_ rfl rfl|((first|refine aq rfl rfl ?_ ?_|refine av rfl rfl rfl ?_ ?_|refine aU rfl ?_ ?_)<;>intro hb<;>(try simp only[aF]at hb)<;>first|(exfalso;omega)|refine aj th rfl ?_|refine ak th rfl ?_|skip)|refine aT th Tryz.func104 (.inr ⟨_,rfl⟩) rfl rfl rfl ?_ rfl)
  exact fi (by rw[qL,b7];simp;omega)
end Go.Sy
namespace Go.Sy
open Go.Proofs
set_option maxRecDepth 100000
attribute [local irreducible] SOps Goes DOps EOps
abbrev Uq:Nat:=9223372036854775806
def Ej(l:List bM):Prop:=∀a∈l,a.name.size≤Uq
def iv(l:Loc):Prop:=∀t∈l.turns,Ej t.aP
theorem lp{α:Type}(l:List α):l.isEmpty=!decide ((0:Int) < (l.length:Int)):=by cases l<;>simp<;>omega
def q6(n:Int)(l:List fe):Bool:=l.all (gd n)
theorem y3{n:Int}{l:List fe}{i:Nat}(bo:i < l.length)(b7:q6 n (l.take i)=true):q6 n (l.take (i+1))=gd n l[i]:=by
 unfold q6 at *
 rw[List.take_succ_eq_append_getElem bo,List.all_append,b7];simp
theorem xE{n:Int}{l:List fe}{i:Nat}(hi:i < l.length)(ht:gd n l[i]=false):q6 n l=false:=
 List.all_eq_false.2 ⟨l[i],List.getElem_mem hi,by rw[ht];decide⟩
theorem uu(l:Loc):c7 l=(decide (1≤l.turns.length)&&(decide (l.turns.length≤40)&&q6 l.turns.length l.turns)):=rfl
theorem sU{n:Int}{t:fe}(h:t.kind=0):gd n t=(decide (t.peer=⟨#[]⟩)&&t.aP.isEmpty):=by unfold gd;rw[if_pos h]
theorem xF{n:Int}{t:fe}(h0:t.kind≠0)(h:t.kind=1∨t.kind=2):gd n t=(bZ t.peer&&eW n t.aP):=by unfold gd;rw[if_neg h0,if_pos h]
theorem JK{n:Int}{t:fe}(h0:t.kind≠0)(h:¬(t.kind=1∨t.kind=2)):gd n t=false:=by unfold gd;rw[if_neg h0,if_neg h]
set_option maxHeartbeats 8000000 in
theorem tt(l:Loc)(hs:iv l):dy Tryz.prog 57 [] [Ag l.cs] (Rv (.bool (c7 l))) []:=by
 refine bd (c:=_) Tryz.func57 rfl rfl rfl (by decide) fun w M0 H Z=>?_
 repeat'(first|(refine yq 1 1 rfl rfl fun mT=>?_;simp only[List.length_map]at mT;refine al ?_;refine aj th rfl ?_)|refine bH rfl ?_|(refine al ?_;refine aj th rfl ?_)|(refine au mix rfl rfl ?_;refine ak th rfl ?_)|(refine ao mix rfl rfl ?_;refine ay th rfl ?_)|refine SOps.nil ?_|refine DOps.nil ?_|refine EOps.nil ?_ rfl rfl|((first|refine aq rfl rfl ?_ ?_|refine av rfl rfl rfl ?_ ?_|refine aU rfl ?_ ?_)<;>intro hb<;>(try simp only[aF]at hb)<;>first|(exfalso;omega)|refine aj th rfl ?_|refine ak th rfl ?_|skip)|refine aT th Tryz.func57 (.inr ⟨_,rfl⟩) rfl rfl rfl ?_ rfl)
 ·exact fi (by rw[uu];simp;omega)
 ·exact fi (by rw[uu];simp;omega)
 refine bE (fun i:Nat=>i≤l.turns.length∧q6 l.turns.length (l.turns.take i)=true)
  (fun i=>[(1,.v (.one (.ptr 1 0))),(16,.v (C1 (gi l.turns))),(17,.v (C1 (.int .i64 (l.turns.length:Int)))),(18,.v (C1 (.int .i64 (i:Int))))])
  (fun i=>[(1,.box (l.cs.map SC.c))])
  (fun i=>l.turns.length - i) 0 ⟨Nat.zero_le _,rfl⟩
  (fun a w h=>h.sub (by exact⟨⟨_,rfl,.refl _⟩,⟨_,rfl,.refl _⟩,⟨_,rfl,aC (by simp)⟩,⟨_,rfl,aC rfl⟩,trivial⟩) (by exact⟨⟨_,rfl,.refl _⟩,trivial⟩) rfl rfl rfl) (fun i hi ih=>?_)
 obtain⟨hi,b7⟩:=hi
 by_cases bo:i < l.turns.length
 ·have hx:(l.turns.map fe.cs)[i]? =some (l.turns[i]).cs:=by simp[bo]
  have SY:=hs l.turns[i] (List.getElem_mem bo)
  have eu:=y3 bo b7
  have fO:gd l.turns.length l.turns[i]=false→c7 l=false:=fun h=>by rw[uu,xE bo h];simp
  repeat'(first|refine bH rfl ?_|(refine al ?_;refine aj th rfl ?_)|(refine au mix rfl rfl ?_;refine ak th rfl ?_)|(refine ao mix rfl rfl ?_;refine ay th rfl ?_)|refine SOps.nil ?_|refine DOps.nil ?_|refine EOps.nil ?_ rfl rfl|((first|refine aq rfl rfl ?_ ?_|refine av rfl rfl rfl ?_ ?_|refine aU rfl ?_ ?_)<;>intro hb<;>(try simp only[aF]at hb)<;>first|(exfalso;omega)|refine aj th rfl ?_|refine ak th rfl ?_|skip)|refine aT th Tryz.func57 (.inr ⟨_,rfl⟩) rfl rfl rfl ?_ rfl|((first|refine ch th rfl rfl rfl rfl rfl rfl rfl rfl rfl i _ rfl hx ?_|refine aS (nB l.turns[i].peer) [] rfl rfl rfl rfl rfl rfl rfl rfl rfl rfl ?_|refine aS (O4 l.turns[i].aP ((l.turns.map fe.cs).length:Int) SY) [] rfl rfl rfl rfl rfl rfl rfl rfl rfl rfl ?_|refine bO rfl rfl rfl rfl rfl rfl (by omega) ?_);refine aj th rfl ?_))
  all_goals first
   |exact fi (by rw[fO (by rw[sU (by assumption),decide_eq_false (by assumption)];rfl)])
   |exact fi (by rw[fO (by rw[sU (by assumption),lp,decide_eq_true (p:=(0:Int) < _) (by assumption)];simp)])
   |exact fi (by rw[fO (by rw[xF (by omega) (by omega)];simp[*])])
   |exact fi (by rw[fO (JK (by omega) (by omega))])
   |(have cS:=ih (i+1) ⟨bo,by rw[eu];first|(rw[sU (by assumption),lp,decide_eq_false (p:=(0:Int) < _) (by assumption),decide_eq_true (by assumption)];rfl)|(rw[xF (by omega) (by omega)];simp[*];done)⟩ (by omega)
     exact bJ (by exact⟨⟨_,rfl,.refl _⟩,⟨_,rfl,.refl _⟩,⟨_,rfl,.refl _⟩,⟨_,rfl,aC (by omega)⟩,trivial⟩) (by exact⟨⟨_,rfl,.refl _⟩,trivial⟩) rfl rfl rfl cS)
 ·have gn:i=l.turns.length:=by omega
  subst gn
  rw[List.take_length]at b7
  repeat'(first|refine bH rfl ?_|(refine al ?_;refine aj th rfl ?_)|(refine au mix rfl rfl ?_;refine ak th rfl ?_)|(refine ao mix rfl rfl ?_;refine ay th rfl ?_)|refine SOps.nil ?_|refine DOps.nil ?_|refine EOps.nil ?_ rfl rfl|((first|refine aq rfl rfl ?_ ?_|refine av rfl rfl rfl ?_ ?_|refine aU rfl ?_ ?_)<;>intro hb<;>(try simp only[aF]at hb)<;>first|(exfalso;omega)|refine aj th rfl ?_|refine ak th rfl ?_|skip)|refine aT th Tryz.func57 (.inr ⟨_,rfl⟩) rfl rfl rfl ?_ rfl)
  exact fi (by rw[uu,b7];simp;omega)
end Go.Sy
