/- Contracts of the reference: what arms, local types and protocols may be. -/
import Derived.Test.YtademmkjmpgplaaGreatDoorHn
import Derived.Test.YtademmkjmpgplaaGreatDoorBu2
import Derived.Test.YtademmkjmpgplaaGreatDoorBl2
import Derived.Test.YtademmkjmpgplaaGreatDoorBw1
import Derived.Test.YtademmkjmpgplaaGreatDoorSymZu
set_option linter.unusedSimpArgs false
set_option linter.unusedVariables false
set_option linter.unusedSectionVars false
namespace Go.Sy
open Go.Proofs
set_option maxRecDepth 100000
attribute [local irreducible] SOps Goes DOps EOps
theorem cutB_none:∀{l:List UInt8},(∀i (h:i < l.length),l[i]≠46)→cutB l=none
 |[],_=>rfl
 |c::l,h=>by
  have h0:=h 0 (by simp)
  rw[List.getElem_cons_zero]at h0
  rw[cutB,if_neg h0,cutB_none (l:=l) fun i hi=>by
   have:=h (i+1) (by simpa using hi)
   rwa [List.getElem_cons_succ]at this]
  rfl
theorem cutB_at:∀{l:List UInt8} {k:Nat} (hk:k < l.length),(∀i (h:i < l.length),i < k→l[i]≠46)→l[k]=46→cutB l=some (l.take k,l.drop (k+1))
 |[],_,hk,_,_=>by simp at hk
 |c::l,0,_,_,h=>by
  rw[List.getElem_cons_zero]at h
  rw[cutB,if_pos h];simp
 |c::l,k+1,hk,h1,h2=>by
  have h0:=h1 0 (by simp) (by omega)
  rw[List.getElem_cons_zero]at h0
  rw[List.getElem_cons_succ]at h2
  rw[cutB,if_neg h0,cutB_at (l:=l) (k:=k) (by simpa using hk) (fun i hi hk=>by
   have:=h1 (i+1) (by simpa using hi) (by omega)
   rwa [List.getElem_cons_succ]at this) h2]
  simp
theorem ext_to(s:ByteArray)(k:Nat):s.extract 0 k=⟨(s.data.toList.take k).toArray⟩:=by
 have:=ByteArray.extract_mk s.data.toList 0 k
 simpa using this
theorem ext_from(s:ByteArray)(k:Nat):s.extract k s.size=⟨(s.data.toList.drop k).toArray⟩:=by
 have h:=ByteArray.extract_mk s.data.toList k s.size
 have hl:s.data.toList.length=s.size:=by simp
 rw[List.take_of_length_le (by rw[List.length_drop];omega)]at h
 simpa using h
set_option maxHeartbeats 4000000 in
theorem typeR_c(s:ByteArray)(hs:s.size≤bigS):Con Tryz.prog 136 [] [C1 (.str s)] (Rv (.bool (typeB s))) []:=by
 have hsz:s.data.toList.length=s.size:=by simp
 unfold bigS at hs
 refine J2 (c:=_) Tryz.func136 rfl rfl rfl (by decide) fun w M0 H Z=>?_
 repeat'(first|refine gc_ rfl ?_|(refine G1 ?_;refine G0 th rfl ?_)|(refine G9 mix rfl rfl ?_;refine G3 th rfl ?_)|(refine G5 mix rfl rfl ?_;refine GJ th rfl ?_)|refine G2 ?_|refine G4 ?_|refine G6 ?_ rfl rfl|((first|refine G8 rfl rfl ?_ ?_|refine GG rfl rfl rfl ?_ ?_|refine Q1 rfl ?_ ?_)<;>intro hb<;>(try simp only[hbL]at hb)<;>first|(exfalso;omega)|refine G0 th rfl ?_|refine G3 th rfl ?_|skip))
 refine J8 (fun k:Nat=>k≤s.size∧∀i (h:i < s.data.toList.length),i < k→s.data.toList[i]≠46)
  (fun k=>[(0,.v (C1 (.str s))),(3,.v (C1 (.int .i64 (k:Int))))]) (fun _=>[]) (fun k=>s.size - k) 0 ⟨Nat.zero_le _,fun i _ h=>by omega⟩
  (fun a w h=>h.sub (by exact⟨⟨_,rfl,.refl _⟩,⟨_,rfl,GY rfl⟩,trivial⟩) (by exact trivial) rfl rfl rfl) (fun k hk ih=>?_)
 obtain⟨hk,ha⟩:=hk
 by_cases hlt:k < s.size
 ·have hlt':k < s.data.toList.length:=by omega
  have hx:s.data.toList[k]? =some s.data.toList[k]:=List.getElem?_eq_getElem hlt'
  by_cases hd:s.data.toList[k]=46
  ·have ht:typeB s=(nameB (s.extract 0 k)&&nameB (s.extract (k+1) s.size)):=by
    unfold typeB
    rw[cutB_at hlt' ha hd,ext_to,ext_from]
   have c1:=mayR_c (s.extract 0 k)
   have c2:=mayR_c (s.extract (k+1) s.size)
   rw[ht]
   clear ih
   generalize hz:s.data.toList[k]=z at hx hd
   subst hd
   generalize nameB (s.extract 0 k)=b1 at c1⊢
   generalize nameB (s.extract (k+1) s.size)=b2 at c2⊢
   repeat'(first|refine gc_ rfl ?_|(refine G1 ?_;refine G0 th rfl ?_)|(refine G9 mix rfl rfl ?_;refine G3 th rfl ?_)|(refine G5 mix rfl rfl ?_;refine GJ th rfl ?_)|refine G2 ?_|refine G4 ?_|refine G6 ?_ rfl rfl|((first|refine G8 rfl rfl ?_ ?_|refine GG rfl rfl rfl ?_ ?_|refine Q1 rfl ?_ ?_)<;>intro hb<;>(try simp only[hbL]at hb)<;>first|(exfalso;omega)|refine G0 th rfl ?_|refine G3 th rfl ?_|skip)|refine QQ th Tryz.func136 (.inr ⟨_,rfl⟩) rfl rfl rfl ?_ rfl|((first|refine s_str th rfl rfl rfl rfl rfl rfl rfl k _ rfl hx ?_|refine s_strTo th rfl rfl rfl rfl rfl rfl rfl (k) (by omega) (by omega) ?_|refine s_strFrom th rfl rfl rfl rfl rfl rfl rfl (k+1) (by omega) (by omega) ?_|refine Q4 c1 [] rfl rfl rfl rfl rfl rfl rfl rfl rfl rfl ?_|refine Q4 c2 [] rfl rfl rfl rfl rfl rfl rfl rfl rfl rfl ?_|refine QW rfl rfl rfl rfl rfl rfl (by omega) ?_);refine G0 th rfl ?_))
   all_goals first|(exfalso;revert hb;simp;done)|exact le_ct (by simp[*])
  ·have hih:=ih (k+1) ⟨hlt,fun i h hi=>by
    by_cases hik:i=k
    ·subst hik;exact hd
    ·exact ha i h (by omega)⟩ (by omega)
   have hdI:¬((s.data.toList[k].toNat:Int)=46):=fun h=>hd (by
    have:s.data.toList[k].toNat=46:=by omega
    exact UInt8.toNat_inj.1 this)
   generalize s.data.toList[k]=z at hx hdI
   repeat'(first|refine gc_ rfl ?_|(refine G1 ?_;refine G0 th rfl ?_)|(refine G9 mix rfl rfl ?_;refine G3 th rfl ?_)|(refine G5 mix rfl rfl ?_;refine GJ th rfl ?_)|refine G2 ?_|refine G4 ?_|refine G6 ?_ rfl rfl|((first|refine G8 rfl rfl ?_ ?_|refine GG rfl rfl rfl ?_ ?_|refine Q1 rfl ?_ ?_)<;>intro hb<;>(try simp only[hbL]at hb)<;>first|(exfalso;omega)|refine G0 th rfl ?_|refine G3 th rfl ?_|skip)|((first|refine s_str th rfl rfl rfl rfl rfl rfl rfl k _ rfl hx ?_|refine QW rfl rfl rfl rfl rfl rfl (by omega) ?_);refine G0 th rfl ?_))
   all_goals first|(exfalso;exact hdI hb)|exact QK (by exact⟨⟨_,rfl,.refl _⟩,⟨_,rfl,GY (by omega)⟩,trivial⟩) (by exact trivial) rfl rfl rfl hih
 ·have ht:typeB s=nameB s:=by
   unfold typeB
   rw[cutB_none fun i h=>ha i h (by omega)]
  have c1:=mayR_c s
  rw[ht]
  repeat'(first|refine gc_ rfl ?_|(refine G1 ?_;refine G0 th rfl ?_)|(refine G9 mix rfl rfl ?_;refine G3 th rfl ?_)|(refine G5 mix rfl rfl ?_;refine GJ th rfl ?_)|refine G2 ?_|refine G4 ?_|refine G6 ?_ rfl rfl|((first|refine G8 rfl rfl ?_ ?_|refine GG rfl rfl rfl ?_ ?_|refine Q1 rfl ?_ ?_)<;>intro hb<;>(try simp only[hbL]at hb)<;>first|(exfalso;omega)|refine G0 th rfl ?_|refine G3 th rfl ?_|skip)|refine QQ th Tryz.func136 (.inr ⟨_,rfl⟩) rfl rfl rfl ?_ rfl|(refine Q4 c1 [] rfl rfl rfl rfl rfl rfl rfl rfl rfl rfl ?_;refine G0 th rfl ?_))
  all_goals exact .refl _
set_option maxHeartbeats 4000000 in
theorem carR_c(k:Int)(name:ByteArray)(hs:name.size≤bigS):Con Tryz.prog 119 [] [Ag [.int .i64 k,.str name]] (Rv (.bool (carB k name))) []:=by
 have c1:=typeR_c name hs
 by_cases hk:k=5
 ·subst hk
  rw[carB_chan]
  refine J2 (c:=_) Tryz.func119 rfl rfl rfl (by decide) fun w M0 H Z=>?_
  repeat'(first|refine gc_ rfl ?_|(refine G1 ?_;refine G0 th rfl ?_)|(refine G9 mix rfl rfl ?_;refine G3 th rfl ?_)|(refine G5 mix rfl rfl ?_;refine GJ th rfl ?_)|refine G2 ?_|refine G4 ?_|refine G6 ?_ rfl rfl|((first|refine G8 rfl rfl ?_ ?_|refine GG rfl rfl rfl ?_ ?_|refine Q1 rfl ?_ ?_)<;>intro hb<;>(try simp only[hbL]at hb)<;>first|(exfalso;omega)|refine G0 th rfl ?_|refine G3 th rfl ?_|skip)|refine QQ th Tryz.func119 (.inr ⟨_,rfl⟩) rfl rfl rfl ?_ rfl|(refine Q4 c1 [] rfl rfl rfl rfl rfl rfl rfl rfl rfl rfl ?_;refine G0 th rfl ?_))
  all_goals first|exact .refl _|(exfalso;revert hb;simp;done)
 ·clear c1
  refine J2 (c:=_) Tryz.func119 rfl rfl rfl (by decide) fun w M0 H Z=>?_
  repeat'(first|refine gc_ rfl ?_|(refine G1 ?_;refine G0 th rfl ?_)|(refine G9 mix rfl rfl ?_;refine G3 th rfl ?_)|(refine G5 mix rfl rfl ?_;refine GJ th rfl ?_)|refine G2 ?_|refine G4 ?_|refine G6 ?_ rfl rfl|((first|refine G8 rfl rfl ?_ ?_|refine GG rfl rfl rfl ?_ ?_|refine Q1 rfl ?_ ?_)<;>intro hb<;>(try simp only[hbL]at hb)<;>first|(exfalso;omega)|refine G0 th rfl ?_|refine G3 th rfl ?_|skip)|refine QQ th Tryz.func119 (.inr ⟨_,rfl⟩) rfl rfl rfl ?_ rfl)
  all_goals first|(exfalso;exact hk hb)|exact le_ct (by rw[carB_no name (by omega)])|exact le_ct (by rw[carB_data name (by omega) (by omega)])
set_option maxHeartbeats 8000000 in
theorem armsR_c(l:List Arm)(n:Int)(hs:ArmsBig l):Con Tryz.prog 84 [] [C1 (armsC l),C1 (.int .i64 n)] (Rv (.bool (armsOK n l))) []:=by
 refine J2 (c:=_) Tryz.func84 rfl rfl rfl (by decide) fun w M0 H Z=>?_
 refine g_len 0 rfl fun hll=>?_
 simp only[List.length_map]at hll
 repeat'(first|refine gc_ rfl ?_|(refine G1 ?_;refine G0 th rfl ?_)|(refine G9 mix rfl rfl ?_;refine G3 th rfl ?_)|(refine G5 mix rfl rfl ?_;refine GJ th rfl ?_)|refine G2 ?_|refine G4 ?_|refine G6 ?_ rfl rfl|((first|refine G8 rfl rfl ?_ ?_|refine GG rfl rfl rfl ?_ ?_|refine Q1 rfl ?_ ?_)<;>intro hb<;>(try simp only[hbL]at hb)<;>first|(exfalso;omega)|refine G0 th rfl ?_|refine G3 th rfl ?_|skip))
 refine J8 (fun i:Nat=>i≤l.length∧armsM n (l.take i)=true)
  (fun i=>[(0,.v (C1 (armsC l))),(0+1,.v (C1 (.int .i64 n))),(5,.v (C1 (.int .i64 (i:Int))))])
  (fun _=>[]) (fun i=>l.length - i) 0 ⟨Nat.zero_le _,rfl⟩
  (fun a w h=>h.sub (by exact⟨⟨_,rfl,.refl _⟩,⟨_,rfl,.refl _⟩,⟨_,rfl,GY rfl⟩,trivial⟩) (by exact trivial) rfl rfl rfl) (fun i hi ih=>?_)
 obtain⟨hi,hok⟩:=hi
 by_cases hlt:i < l.length
 ·have hx:(l.map Arm.cs)[i]? =some (l[i]).cs:=by simp[hlt]
  have hst:armsM n (l.take (i+1))=(armB n l[i]&&!memB ((l.take i).map Arm.label) l[i].label):=by
   rw[List.take_succ_eq_append_getElem hlt,armsM_snoc,hok,Bool.true_and]
  have hno:armsM n (l.take (i+1))=false→armsOK n l=false:=fun h=>by rw[armsOK_M,armsM_false hlt h];simp
  have hih:=fun h=>ih (i+1) ⟨hlt,h⟩ (by omega)
  have hlk:∀k (h:k < i),(l[k]'(by omega)).label=l[i].label→memB ((l.take i).map Arm.label) l[i].label=true:=fun k h e=>by
   have hm:l[i].label∈(l.take i).map Arm.label:=by
    rw[←e];exact List.mem_map_of_mem (List.mem_take_iff_getElem.2 ⟨k,by omega,rfl⟩)
   simpa[memB]using hm
  have hln:(∀k (h:k < i),(l[k]'(by omega)).label≠l[i].label)→memB ((l.take i).map Arm.label) l[i].label=false:=fun h=>by
   cases hmb:memB ((l.take i).map Arm.label) l[i].label with
   |false=>rfl
   |true=>
   exfalso
   have hm:l[i].label∈(l.take i).map Arm.label:=by simpa[memB]using hmb
   obtain⟨a,ha,e⟩:=List.mem_map.1 hm
   obtain⟨k,hk,rfl⟩:=List.mem_take_iff_getElem.1 ha
   exact h k (by omega) e
  have hxk:∀k (h:k < l.length),(l.map Arm.cs)[k]? =some (l[k]).cs:=fun k h=>by simp[h]
  have c1:=mayR_c l[i].label
  have c2:=carR_c l[i].kind l[i].name (hs l[i] (List.getElem_mem hlt))
  clear ih
  obtain⟨a,hA⟩:∃a,a=l[i]:=⟨_,rfl⟩
  rw[←hA]at hx hst hlk hln c1 c2
  clear hA
  have hab:armB n a=(nameB a.label&&(carB a.kind a.name&&(decide (0≤a.next)&&decide (a.next < n)))):=rfl
  repeat'(first|refine gc_ rfl ?_|(refine G1 ?_;refine G0 th rfl ?_)|(refine G9 mix rfl rfl ?_;refine G3 th rfl ?_)|(refine G5 mix rfl rfl ?_;refine GJ th rfl ?_)|refine G2 ?_|refine G4 ?_|refine G6 ?_ rfl rfl|((first|refine G8 rfl rfl ?_ ?_|refine GG rfl rfl rfl ?_ ?_|refine Q1 rfl ?_ ?_)<;>intro hb<;>(try simp only[hbL]at hb)<;>first|(exfalso;omega)|refine G0 th rfl ?_|refine G3 th rfl ?_|skip)|((first|refine K2 th rfl rfl rfl rfl rfl rfl rfl rfl rfl i _ rfl hx ?_|refine Q4 c1 [] rfl rfl rfl rfl rfl rfl rfl rfl rfl rfl ?_|refine Q4 c2 [] rfl rfl rfl rfl rfl rfl rfl rfl rfl rfl ?_);refine G0 th rfl ?_))
  all_goals first
   |(refine QQ th Tryz.func84 (.inr ⟨_,rfl⟩) rfl rfl rfl ?_ rfl
     exact le_ct (by rw[hno (by rw[hst,hab];simp[*]<;>omega)]))
   |skip
  have habt:armB n a=true:=by rw[hab];simp[*]<;>omega
  rw[habt,Bool.true_and]at hst
  clear hab
  refine J8 (fun k:Nat=>k≤i∧∀j (h:j < l.length),j < k→l[j].label≠a.label)
   (fun k=>[(0,.v (C1 (armsC l))),(0+1,.v (C1 (.int .i64 n))),(5,.v (C1 (.int .i64 (i:Int)))),(6,.v (C1 (.int .i64 (k:Int))))])
   (fun _=>[]) (fun k=>i - k) 0 ⟨Nat.zero_le _,fun j _ h=>by omega⟩
   (fun a w h=>h.sub (by exact⟨⟨_,rfl,.refl _⟩,⟨_,rfl,.refl _⟩,⟨_,rfl,.refl _⟩,⟨_,rfl,GY rfl⟩,trivial⟩) (by exact trivial) rfl rfl rfl) (fun k hk ih2=>?_)
  obtain⟨hk,hka⟩:=hk
  by_cases hkl:k < i
  ·have hx2:=hxk k (by omega)
   by_cases he:(l[k]'(by omega)).label=a.label
   ·have hr:=hno (by rw[hst,hlk k hkl he];rfl)
    rw[hr]
    clear ih2 hih
    generalize l[k]'(by omega)=b at hx2 he
    repeat'(first|refine gc_ rfl ?_|(refine G1 ?_;refine G0 th rfl ?_)|(refine G9 mix rfl rfl ?_;refine G3 th rfl ?_)|(refine G5 mix rfl rfl ?_;refine GJ th rfl ?_)|refine G2 ?_|refine G4 ?_|refine G6 ?_ rfl rfl|((first|refine G8 rfl rfl ?_ ?_|refine GG rfl rfl rfl ?_ ?_|refine Q1 rfl ?_ ?_)<;>intro hb<;>(try simp only[hbL]at hb)<;>first|(exfalso;omega)|refine G0 th rfl ?_|refine G3 th rfl ?_|skip)|refine QQ th Tryz.func84 (.inr ⟨_,rfl⟩) rfl rfl rfl ?_ rfl|((first|refine d_idx th rfl rfl rfl rfl rfl rfl rfl rfl rfl k _ rfl hx2 ?_|refine d_idx th rfl rfl rfl rfl rfl rfl rfl rfl rfl i _ rfl hx ?_);refine G3 th rfl ?_)|(refine QW rfl rfl rfl rfl rfl rfl (by omega) ?_;refine G0 th rfl ?_))
    all_goals first|exact .refl _|(exfalso;exact hb he)|(exfalso;omega)
   ·have hih2:=ih2 (k+1) ⟨hkl,fun j h hj=>by
     by_cases hjk:j=k
     ·subst hjk;exact he
     ·exact hka j h (by omega)⟩ (by omega)
    clear ih2 hih
    generalize l[k]'(by omega)=b at hx2 he
    repeat'(first|refine gc_ rfl ?_|(refine G1 ?_;refine G0 th rfl ?_)|(refine G9 mix rfl rfl ?_;refine G3 th rfl ?_)|(refine G5 mix rfl rfl ?_;refine GJ th rfl ?_)|refine G2 ?_|refine G4 ?_|refine G6 ?_ rfl rfl|((first|refine G8 rfl rfl ?_ ?_|refine GG rfl rfl rfl ?_ ?_|refine Q1 rfl ?_ ?_)<;>intro hb<;>(try simp only[hbL]at hb)<;>first|(exfalso;omega)|refine G0 th rfl ?_|refine G3 th rfl ?_|skip)|((first|refine d_idx th rfl rfl rfl rfl rfl rfl rfl rfl rfl k _ rfl hx2 ?_|refine d_idx th rfl rfl rfl rfl rfl rfl rfl rfl rfl i _ rfl hx ?_);refine G3 th rfl ?_)|(refine QW rfl rfl rfl rfl rfl rfl (by omega) ?_;refine G0 th rfl ?_))
    all_goals first|(exfalso;exact he hb)|(exfalso;omega)|exact QK (by exact⟨⟨_,rfl,.refl _⟩,⟨_,rfl,.refl _⟩,⟨_,rfl,.refl _⟩,⟨_,rfl,GY (by omega)⟩,trivial⟩) (by exact trivial) rfl rfl rfl hih2
  ·have hih2:=hih (by rw[hst,hln fun j h=>hka j (by omega) (by omega)];rfl)
   clear ih2 hih
   repeat'(first|refine gc_ rfl ?_|(refine G1 ?_;refine G0 th rfl ?_)|(refine G9 mix rfl rfl ?_;refine G3 th rfl ?_)|(refine G5 mix rfl rfl ?_;refine GJ th rfl ?_)|refine G2 ?_|refine G4 ?_|refine G6 ?_ rfl rfl|((first|refine G8 rfl rfl ?_ ?_|refine GG rfl rfl rfl ?_ ?_|refine Q1 rfl ?_ ?_)<;>intro hb<;>(try simp only[hbL]at hb)<;>first|(exfalso;omega)|refine G0 th rfl ?_|refine G3 th rfl ?_|skip)|(refine QW rfl rfl rfl rfl rfl rfl (by omega) ?_;refine G0 th rfl ?_))
   all_goals first|(exfalso;omega)|exact QK (by exact⟨⟨_,rfl,.refl _⟩,⟨_,rfl,.refl _⟩,⟨_,rfl,GY (by omega)⟩,trivial⟩) (by exact trivial) rfl rfl rfl hih2
 ·have hke:i=l.length:=by omega
  subst hke
  rw[List.take_length]at hok
  repeat'(first|refine gc_ rfl ?_|(refine G1 ?_;refine G0 th rfl ?_)|(refine G9 mix rfl rfl ?_;refine G3 th rfl ?_)|(refine G5 mix rfl rfl ?_;refine GJ th rfl ?_)|refine G2 ?_|refine G4 ?_|refine G6 ?_ rfl rfl|((first|refine G8 rfl rfl ?_ ?_|refine GG rfl rfl rfl ?_ ?_|refine Q1 rfl ?_ ?_)<;>intro hb<;>(try simp only[hbL]at hb)<;>first|(exfalso;omega)|refine G0 th rfl ?_|refine G3 th rfl ?_|skip)|refine QQ th Tryz.func84 (.inr ⟨_,rfl⟩) rfl rfl rfl ?_ rfl)
  all_goals
   refine le_ct ?_
   rw[armsOK_M]
   by_cases h1:1≤l.length
   ·rw[hok,decide_eq_true h1];simp<;>omega
   ·rw[decide_eq_false h1];simp<;>omega
theorem endP_no{roles:List ByteArray}{n:Int}{x:Pnt}(h:endP x=false):pntB roles n x=(decide (0≤placeI roles x.from_)&&(decide (0≤placeI roles x.to)&&(decide (x.from_≠x.to)&&armsOK n x.arms))):=by
 unfold pntB;rw[h,Bool.false_or]
section
variable {roles:List ByteArray} {n:Int} {x:Pnt}
theorem pnt_bad1(he:endP x=false)(h:x.from_=x.to):pntB roles n x=false:=by rw[endP_no he,decide_eq_false (fun hn:x.from_≠x.to=>hn h)];simp
theorem pnt_bad2(he:endP x=false)(h:¬placeI roles x.from_≥0):pntB roles n x=false:=by rw[endP_no he,decide_eq_false (p:=0≤placeI roles x.from_) h];simp
theorem pnt_bad3(he:endP x=false)(h:¬placeI roles x.to≥0):pntB roles n x=false:=by rw[endP_no he,decide_eq_false (p:=0≤placeI roles x.to) h];simp
theorem pnt_bad4(he:endP x=false)(h:armsOK n x.arms=false):pntB roles n x=false:=by rw[endP_no he,h];simp
theorem pnt_good(he:endP x=false)(h1:¬x.from_=x.to)(h2:placeI roles x.from_≥0)(h3:placeI roles x.to≥0)(h4:armsOK n x.arms=true):pntB roles n x=true:=by
 rw[endP_no he,decide_eq_true (p:=0≤placeI roles x.from_) h2,decide_eq_true (p:=0≤placeI roles x.to) h3,decide_eq_true (p:=x.from_≠x.to) h1,h4];rfl
end
theorem endP_not{x:Pnt}(h1:x.from_=⟨#[]⟩)(h2:x.to=⟨#[]⟩)(h3:(x.arms.length:Int)=0):endP x=true:=by
 unfold endP
 rw[h1,h2,show x.arms=[]from List.length_eq_zero_iff.1 (by omega)];rfl
set_option maxHeartbeats 16000000 in
theorem pmayR_c(p:Prt)(hB:PrtBig p):Con Tryz.prog 41 [] [Ag p.cs] (Rv (.bool (prtB p))) []:=by
 have c1:=mayR_c p.name
 have c2:=onceR_c p.roles
 refine J2 (c:=_) Tryz.func41 rfl rfl rfl (by decide) fun w M0 H Z=>?_
 repeat'(first|(refine g_lenB 1 1 rfl rfl fun hll=>?_;simp only[List.length_map]at hll;refine G1 ?_;refine G0 th rfl ?_)|refine gc_ rfl ?_|(refine G1 ?_;refine G0 th rfl ?_)|(refine G9 mix rfl rfl ?_;refine G3 th rfl ?_)|(refine G5 mix rfl rfl ?_;refine GJ th rfl ?_)|refine G2 ?_|refine G4 ?_|refine G6 ?_ rfl rfl|((first|refine G8 rfl rfl ?_ ?_|refine GG rfl rfl rfl ?_ ?_|refine Q1 rfl ?_ ?_)<;>intro hb<;>(try simp only[hbL]at hb)<;>first|(exfalso;omega)|refine G0 th rfl ?_|refine G3 th rfl ?_|skip)|refine QQ th Tryz.func41 (.inr ⟨_,rfl⟩) rfl rfl rfl ?_ rfl|((first|refine Q4 c1 [] rfl rfl rfl rfl rfl rfl rfl rfl rfl rfl ?_|refine Q4 c2 [] rfl rfl rfl rfl rfl rfl rfl rfl rfl rfl ?_);refine G0 th rfl ?_))
 ·exact le_ct (by unfold prtB;simp[*])
 ·exact le_ct (by unfold prtB;rw[decide_eq_false (p:=2≤p.roles.length) (by omega)];simp)
 ·exact le_ct (by unfold prtB;rw[decide_eq_false (p:=p.roles.length≤5) (by omega)];simp)
 ·exact le_ct (by unfold prtB;simp[*])
 ·exact le_ct (by unfold prtB;rw[decide_eq_false (p:=1≤p.points.length) (by omega)];simp)
 ·exact le_ct (by unfold prtB;rw[decide_eq_false (p:=p.points.length≤24) (by omega)];simp)
 have hnm:nameB p.name=true:=by assumption
 have hon:onceB p.roles=true:=by assumption
 have hr2:decide (2≤p.roles.length)=true:=decide_eq_true (by omega)
 have hr5:decide (p.roles.length≤5)=true:=decide_eq_true (by omega)
 have hp1:decide (1≤p.points.length)=true:=decide_eq_true (by omega)
 have hp24:decide (p.points.length≤24)=true:=decide_eq_true (by omega)
 have hg:prtB p=(p.roles.all nameB&&p.points.all (pntB p.roles p.points.length)):=by
  unfold prtB;rw[hnm,hr2,hr5,hon,hp1,hp24];simp
 rw[hg]
 have hp24':p.points.length≤24:=by omega
 have hr5':p.roles.length≤5:=by omega
 clear hg hnm hon hr2 hr5 hp24 hp1 c1 c2
 refine J8 (fun i:Nat=>i≤p.roles.length∧(p.roles.take i).all nameB=true)
  (fun i=>[(1,.v (.one (.ptr 1 0))),(3,.v (C1 (.int .i64 (i:Int))))])
  (fun i=>[(1,.box (p.cs.map SC.c))])
  (fun i=>p.roles.length - i) 0 ⟨Nat.zero_le _,rfl⟩
  (fun a w h=>h.sub (by exact⟨⟨_,rfl,.refl _⟩,⟨_,rfl,GY rfl⟩,trivial⟩) (by exact⟨⟨_,rfl,.refl _⟩,trivial⟩) rfl rfl rfl) (fun i hi ih=>?_)
 obtain⟨hi,hok⟩:=hi
 by_cases hlt:i < p.roles.length
 ·have hx:(p.roles.map fun s=>[CT.str s])[i]? =some [.str p.roles[i]]:=by simp[hlt]
  repeat'(first|refine gc_ rfl ?_|(refine G1 ?_;refine G0 th rfl ?_)|(refine G9 mix rfl rfl ?_;refine G3 th rfl ?_)|(refine G5 mix rfl rfl ?_;refine GJ th rfl ?_)|refine G2 ?_|refine G4 ?_|refine G6 ?_ rfl rfl|((first|refine G8 rfl rfl ?_ ?_|refine GG rfl rfl rfl ?_ ?_|refine Q1 rfl ?_ ?_)<;>intro hb<;>(try simp only[hbL]at hb)<;>first|(exfalso;omega)|refine G0 th rfl ?_|refine G3 th rfl ?_|skip)|refine QQ th Tryz.func41 (.inr ⟨_,rfl⟩) rfl rfl rfl ?_ rfl|((first|refine K2 th rfl rfl rfl rfl rfl rfl rfl rfl rfl i _ rfl hx ?_|refine Q4 (mayR_c p.roles[i]) [] rfl rfl rfl rfl rfl rfl rfl rfl rfl rfl ?_|refine QW rfl rfl rfl rfl rfl rfl (by omega) ?_);refine G0 th rfl ?_))
  ·exact le_ct (by rw[all_false hlt (by assumption)];rfl)
  ·exact QK (by exact⟨⟨_,rfl,.refl _⟩,⟨_,rfl,GY (by omega)⟩,trivial⟩) (by exact⟨⟨_,rfl,.refl _⟩,trivial⟩) rfl rfl rfl (ih (i+1) ⟨hlt,all_snoc hlt hok (by assumption)⟩ (by omega))
 have hke:i=p.roles.length:=by omega
 rw[hke,List.take_length]at hok
 rw[hok,Bool.true_and]
 repeat'(first|refine gc_ rfl ?_|(refine G1 ?_;refine G0 th rfl ?_)|(refine G9 mix rfl rfl ?_;refine G3 th rfl ?_)|(refine G5 mix rfl rfl ?_;refine GJ th rfl ?_)|refine G2 ?_|refine G4 ?_|refine G6 ?_ rfl rfl|((first|refine G8 rfl rfl ?_ ?_|refine GG rfl rfl rfl ?_ ?_|refine Q1 rfl ?_ ?_)<;>intro hb<;>(try simp only[hbL]at hb)<;>first|(exfalso;omega)|refine G0 th rfl ?_|refine G3 th rfl ?_|skip))
 refine J8 (fun i:Nat=>i≤p.points.length∧(p.points.take i).all (pntB p.roles p.points.length)=true)
  (fun i=>[(1,.v (.one (.ptr 1 0))),(4,.v (C1 (.int .i64 (i:Int))))])
  (fun i=>[(1,.box (p.cs.map SC.c))])
  (fun i=>p.points.length - i) 0 ⟨Nat.zero_le _,rfl⟩
  (fun a w h=>h.sub (by exact⟨⟨_,rfl,.refl _⟩,⟨_,rfl,GY rfl⟩,trivial⟩) (by exact⟨⟨_,rfl,.refl _⟩,trivial⟩) rfl rfl rfl) (fun i hi ih=>?_)
 obtain⟨hi,hok⟩:=hi
 by_cases hlt:i < p.points.length
 ·have hx:(p.points.map Pnt.cs)[i]? =some (p.points[i]).cs:=by simp[hlt]
  obtain⟨x,hxx⟩:∃x,x=p.points[i]:=⟨_,rfl⟩
  rw[←hxx]at hx
  have hbad:pntB p.roles p.points.length x=false→p.points.all (pntB p.roles p.points.length)=false:=fun h=>all_false hlt (by rw[←hxx];exact h)
  have hgood:pntB p.roles p.points.length x=true→(p.points.take (i+1)).all (pntB p.roles p.points.length)=true:=fun h=>all_snoc hlt hok (by rw[←hxx];exact h)
  have hxB:ArmsBig x.arms:=hB x (by rw[hxx];exact List.getElem_mem hlt)
  have c3:=armsR_c x.arms ((p.points.map Pnt.cs).length:Int) hxB
  have c3':(p.points.map Pnt.cs).length=p.points.length:=List.length_map ..
  rw[c3']at c3
  have hlI:((p.points.map Pnt.cs).length:Int)=(p.points.length:Int):=by rw[c3']
  clear hxx
  cases he:endP x with
  |true=>
   have hih:=ih (i+1) ⟨hlt,hgood (by unfold pntB;rw[he];rfl)⟩ (by omega)
   unfold endP at he
   simp only[Bool.and_eq_true,decide_eq_true_eq,List.isEmpty_iff]at he
   obtain⟨xf,xt,xa⟩:=x
   obtain⟨e1,e2,e3⟩:=he
   simp only at e1 e2 e3
   subst e1 e2 e3
   clear ih hbad hgood c3
   repeat'(first|(exfalso;revert hb;simp;done)|refine gc_ rfl ?_|(refine G1 ?_;refine G0 th rfl ?_)|(refine G9 mix rfl rfl ?_;refine G3 th rfl ?_)|(refine G5 mix rfl rfl ?_;refine GJ th rfl ?_)|refine G2 ?_|refine G4 ?_|refine G6 ?_ rfl rfl|((first|refine G8 rfl rfl ?_ ?_|refine GG rfl rfl rfl ?_ ?_|refine Q1 rfl ?_ ?_)<;>intro hb<;>(try simp only[hbL]at hb)<;>first|(exfalso;omega)|refine G0 th rfl ?_|refine G3 th rfl ?_|skip)|((first|refine K2 th rfl rfl rfl rfl rfl rfl rfl rfl rfl i _ rfl hx ?_|refine QW rfl rfl rfl rfl rfl rfl (by omega) ?_);refine G0 th rfl ?_))
   all_goals first|(exfalso;omega)|(exfalso;revert hb;simp;done)|exact QK (by exact⟨⟨_,rfl,.refl _⟩,⟨_,rfl,GY (by omega)⟩,trivial⟩) (by exact⟨⟨_,rfl,.refl _⟩,trivial⟩) rfl rfl rfl hih
  |false=>
   have hpb:=endP_no (roles:=p.roles) (n:=(p.points.length:Int)) he
   have hih:=fun h=>ih (i+1) ⟨hlt,hgood h⟩ (by omega)
   clear ih hgood
   repeat'(first|refine gc_ rfl ?_|(refine G1 ?_;refine G0 th rfl ?_)|(refine G9 mix rfl rfl ?_;refine G3 th rfl ?_)|(refine G5 mix rfl rfl ?_;refine GJ th rfl ?_)|refine G2 ?_|refine G4 ?_|refine G6 ?_ rfl rfl|((first|refine G8 rfl rfl ?_ ?_|refine GG rfl rfl rfl ?_ ?_|refine Q1 rfl ?_ ?_)<;>intro hb<;>(try simp only[hbL]at hb)<;>first|(exfalso;omega)|refine G0 th rfl ?_|refine G3 th rfl ?_|skip)|refine QQ th Tryz.func41 (.inr ⟨_,rfl⟩) rfl rfl rfl ?_ rfl|((first|refine K2 th rfl rfl rfl rfl rfl rfl rfl rfl rfl i _ rfl hx ?_|refine Q4 (hasR_c p.roles x.from_) [] rfl rfl rfl rfl rfl rfl rfl rfl rfl rfl ?_|refine Q4 (hasR_c p.roles x.to) [] rfl rfl rfl rfl rfl rfl rfl rfl rfl rfl ?_|refine Q4 (armsR_c x.arms ((p.points.map Pnt.cs).length:Int) hxB) [] rfl rfl rfl rfl rfl rfl rfl rfl rfl rfl ?_|refine QW rfl rfl rfl rfl rfl rfl (by omega) ?_);refine G0 th rfl ?_))
   all_goals first|(exfalso;rw[endP_not (by assumption) (by assumption) (by assumption)]at he;cases he)|exact le_ct (congrArg CT.bool (hbad (pnt_bad1 he (by assumption))).symm)|exact le_ct (congrArg CT.bool (hbad (pnt_bad2 he (by assumption))).symm)|exact le_ct (congrArg CT.bool (hbad (pnt_bad3 he (by assumption))).symm)|exact le_ct (congrArg CT.bool (hbad (pnt_bad4 he (by assumption))).symm)|exact QK (by exact⟨⟨_,rfl,.refl _⟩,⟨_,rfl,GY (by omega)⟩,trivial⟩) (by exact⟨⟨_,rfl,.refl _⟩,trivial⟩) rfl rfl rfl (hih (pnt_good he (by assumption) (by assumption) (by assumption) (by assumption)))
 ·have hke:i=p.points.length:=by omega
  rw[hke,List.take_length]at hok
  rw[hok]
  repeat'(first|refine gc_ rfl ?_|(refine G1 ?_;refine G0 th rfl ?_)|(refine G9 mix rfl rfl ?_;refine G3 th rfl ?_)|(refine G5 mix rfl rfl ?_;refine GJ th rfl ?_)|refine G2 ?_|refine G4 ?_|refine G6 ?_ rfl rfl|((first|refine G8 rfl rfl ?_ ?_|refine GG rfl rfl rfl ?_ ?_|refine Q1 rfl ?_ ?_)<;>intro hb<;>(try simp only[hbL]at hb)<;>first|(exfalso;omega)|refine G0 th rfl ?_|refine G3 th rfl ?_|skip)|refine QQ th Tryz.func41 (.inr ⟨_,rfl⟩) rfl rfl rfl ?_ rfl)
  exact .refl _
end Go.Sy
