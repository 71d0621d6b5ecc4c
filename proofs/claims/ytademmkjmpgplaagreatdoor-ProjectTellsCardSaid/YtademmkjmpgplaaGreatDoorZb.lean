/- The plain law of the reference's projection: it computes what the program's does. -/
import Derived.Test.YtademmkjmpgplaaGreatDoorZa
import Derived.Test.YtademmkjmpgplaaGreatDoorJm
import Derived.Test.YtademmkjmpgplaaGreatDoorMj1
set_option linter.unusedSimpArgs false
set_option linter.unusedVariables false
set_option linter.unusedSectionVars false
namespace Go.Sy
def findA(l:List Arm)(s:ByteArray):Option Arm:=l.find? fun a=>decide (a.label=s)
def carFR(p:Prt)(s:ByteArray):List Int→(Int×ByteArray)→List Int→((Int×ByteArray)×List Int)×Bool
 |[],c,to=>((c,to),true)
 |x::r,c,to=>match findA (Q5 p x).arms s with
  |none=>carFR p s r c to
  |some a=>if 0 < to.length∧(a.kind,a.name)≠c then((c,[]),false)else carFR p s r (a.kind,a.name) (to++[a.next])
def carR(p:Prt)(set:List Int)(s:ByteArray):((Int×ByteArray)×List Int)×Bool:=carFR p s set (0,⟨#[]⟩) []
def armsL(p:Prt)(set:List Int)(s:ByteArray):List Arm:=(armsN p set).filter fun a=>decide (a.label=s)
variable {p:Prt} {role:ByteArray}
theorem find_filter{l:List Arm}(hd:(l.map Arm.label).Nodup)(s:ByteArray):l.filter (fun a=>decide (a.label=s))=(findA l s).toList:=by
 unfold findA
 induction l with
 |nil=>rfl
 |cons b l ih=>
  rw[List.map_cons,List.nodup_cons]at hd
  rw[List.filter_cons,List.find?_cons]
  by_cases hb:b.label=s
  ·rw[decide_eq_true hb,if_pos rfl]
   have:l.filter (fun a=>decide (a.label=s))=[]:=List.filter_eq_nil_iff.2 fun c hc e=>hd.1 (by rw[hb,←of_decide_eq_true e];exact List.mem_map_of_mem hc)
   rw[this];rfl
  ·rw[decide_eq_false hb,if_neg (by simp)]
   exact ih hd.2
theorem armsL_cons(hv:prtB p=true)(x:Int)(r:List Int)(s:ByteArray):armsL p (x::r) s=(findA (Q5 p x).arms s).toList++armsL p r s:=by
 have hd:((Q5 p x).arms.map Arm.label).Nodup:=by
  rcases pntAt_arms hv x with e|h
  ·rw[e];exact List.nodup_nil
  ·exact(arms_all h).2.2
 unfold armsL armsN
 rw[List.flatMap_cons,List.filter_append,find_filter hd]
def lastC(c:Int×ByteArray)(l:List Arm):Int×ByteArray:=l.foldl (fun _ a=>(a.kind,a.name)) c
theorem carFR_ok(hv:prtB p=true)(s:ByteArray):∀(set:List Int) (c:Int×ByteArray) (to:List Int),(0 < to.length→∀a∈armsL p set s,(a.kind,a.name)=c)→(∀a∈armsL p set s,∀b∈armsL p set s,(a.kind,a.name)=(b.kind,b.name))→
 carFR p s set c to=((lastC c (armsL p set s),to++(armsL p set s).map Arm.next),true)
 |[],c,to,_,_=>by simp[carFR,armsL,armsN,lastC]
 |x::r,c,to,h1,h2=>by
  rw[armsL_cons hv]at h1 h2⊢
  rw[carFR]
  cases hf:findA (Q5 p x).arms s with
  |none=>
   rw[hf]at h1 h2
   simp only[Option.toList_none,List.nil_append]at h1 h2⊢
   exact carFR_ok hv s r c to h1 h2
  |some a=>
   rw[hf]at h1 h2
   simp only[Option.toList_some,List.singleton_append]at h1 h2⊢
   rw[if_neg (fun h=>h.2 (h1 h.1 a List.mem_cons_self)),carFR_ok hv s r _ _ (fun _ b hb=>h2 b (List.mem_cons_of_mem _ hb) a List.mem_cons_self) (fun b hb d hd=>h2 b (List.mem_cons_of_mem _ hb) d (List.mem_cons_of_mem _ hd))]
   simp[lastC]
theorem carFR_bad(hv:prtB p=true)(s:ByteArray):∀(set:List Int) (c:Int×ByteArray) (to:List Int),(∃a∈armsL p set s,(0 < to.length∧(a.kind,a.name)≠c)∨∃b∈armsL p set s,(a.kind,a.name)≠(b.kind,b.name))→(carFR p s set c to).2=false
 |[],c,to,h=>by obtain⟨a,ha,_⟩:=h;simp[armsL,armsN]at ha
 |x::r,c,to,h=>by
  rw[armsL_cons hv]at h
  rw[carFR]
  cases hf:findA (Q5 p x).arms s with
  |none=>
   rw[hf]at h
   simp only[Option.toList_none,List.nil_append]at h⊢
   exact carFR_bad hv s r c to h
  |some a=>
   rw[hf]at h
   simp only[Option.toList_some,List.singleton_append]at h⊢
   by_cases hc:0 < to.length∧(a.kind,a.name)≠c
   ·rw[if_pos hc]
   ·rw[if_neg hc]
    refine carFR_bad hv s r _ _ ?_
    have hex:∃b∈armsL p r s,(b.kind,b.name)≠(a.kind,a.name):=by
     by_cases hq:∃b∈armsL p r s,(b.kind,b.name)≠(a.kind,a.name)
     ·exact hq
     ·exfalso
      have hall:∀b∈a::armsL p r s,(b.kind,b.name)=(a.kind,a.name):=fun b hb=>by
       rcases List.mem_cons.1 hb with e|e
       ·rw[e]
       ·cases hd:decide ((b.kind,b.name)=(a.kind,a.name))with
        |true=>exact of_decide_eq_true hd
        |false=>exact absurd ⟨b,e,of_decide_eq_false hd⟩ hq
      obtain⟨b,hb,h1|⟨d,hd,h1⟩⟩:=h
      ·exact hc ⟨h1.1,by rw[←hall b hb];exact h1.2⟩
      ·exact h1 ((hall b hb).trans (hall d hd).symm)
    obtain⟨b,hb,hn⟩:=hex
    exact⟨b,hb,.inl ⟨by simp,hn⟩⟩
theorem armsL_mem{set:List Int}{s:ByteArray}{a:Arm}:a∈armsL p set s↔a∈armsN p set∧a.label=s:=by simp[armsL]
theorem armsL_next(set:List Int)(s:ByteArray):(armsL p set s).map Arm.next=nextN (armsN p set) s:=rfl
theorem car_all(hv:prtB p=true)(set:List Int):(allL p set).all (fun s=>(carR p set s).2)=!clashB (armsN p set):=by
 rw[Bool.eq_iff_iff,List.all_eq_true,Bool.not_eq_true']
 constructor
 ·intro h
  cases hc:clashB (armsN p set)with
  |false=>rfl
  |true=>
   obtain⟨a,ha,b,hb,e,hn⟩:=(clash_iff _).1 hc
   have:=h a.label (allL_mem.2 ⟨a,ha,rfl⟩)
   rw[carR,carFR_bad hv a.label set _ _ ⟨a,armsL_mem.2 ⟨ha,rfl⟩,.inr ⟨b,armsL_mem.2 ⟨hb,e.symm⟩,hn⟩⟩]at this
   cases this
 ·intro h s _
  have hno:∀a∈armsL p set s,∀b∈armsL p set s,(a.kind,a.name)=(b.kind,b.name):=fun a ha b hb=>by
   cases hd:decide ((a.kind,a.name)=(b.kind,b.name))with
   |true=>exact of_decide_eq_true hd
   |false=>
    have:=(clash_iff (armsN p set)).2 ⟨a,(armsL_mem.1 ha).1,b,(armsL_mem.1 hb).1,(armsL_mem.1 ha).2.trans (armsL_mem.1 hb).2.symm,of_decide_eq_false hd⟩
    rw[h]at this;cases this
  rw[carR,carFR_ok hv s set _ _ (fun h=>by simp at h) hno]
theorem lastC_same{c:Int×ByteArray}:∀{l:List Arm} {a:Arm},a∈l→(∀b∈l,(b.kind,b.name)=(a.kind,a.name))→lastC c l=(a.kind,a.name)
 |[],a,h,_=>by cases h
 |b::l,a,h,hs=>by
  unfold lastC
  rw[List.foldl_cons]
  by_cases hl:l=[]
  ·subst hl;exact hs b List.mem_cons_self
  ·obtain⟨d,hd⟩:=List.exists_mem_of_ne_nil l hl
   have e:=hs d (List.mem_cons_of_mem _ hd)
   have:=lastC_same (c:=(b.kind,b.name)) hd fun x hx=>(hs x (List.mem_cons_of_mem _ hx)).trans e.symm
   rw[←e];exact this
theorem car_one(hv:prtB p=true){set:List Int}(hc:clashB (armsN p set)=false){s:ByteArray}(hs:s∈allL p set):carR p set s=((carA (armsN p set) s,nextN (armsN p set) s),true):=by
 obtain⟨a,ha,rfl⟩:=allL_mem.1 hs
 have hno:∀b∈armsL p set a.label,(b.kind,b.name)=(a.kind,a.name):=fun b hb=>by
  rw[←carA_all hc (armsL_mem.1 hb).1,(armsL_mem.1 hb).2,carA_all hc ha]
 rw[carR,carFR_ok hv _ set _ _ (fun h=>by simp at h) (fun b hb d hd=>(hno b hb).trans (hno d hd).symm),List.nil_append,armsL_next,
  lastC_same (armsL_mem.2 ⟨ha,rfl⟩) hno,carA_all hc ha]
def headX(role:ByteArray)(x:Pnt):Int×ByteArray:=if x.to=role then(2,x.from_)else(1,x.to)
theorem head_side(hv:prtB p=true)(hh:hasB p.roles role=true){x:Int}(h:inP (Q5 p x) role=true):headX role (Q5 p x)=(kindOf (J4 p role x).1,(J4 p role x).2):=by
 have hi:=in_pnt hv hh h
 unfold headX J4
 rcases side_in h with⟨h1,e⟩|⟨h1,h2,e⟩
 ·rw[e,if_neg (fun h2=>hi.ne (h1.trans h2.symm))];rfl
 ·rw[e,if_pos h2];rfl
def labsR(p:Prt)(set:List Int):List ByteArray:=set.foldl (fun out x=>((Q5 p x).arms.map Arm.label).foldl putN out) []
theorem labsR_fold(p:Prt):∀(set:List Int) (out:List ByteArray),Asc out→Asc (set.foldl (fun out x=>((Q5 p x).arms.map Arm.label).foldl putN out) out)∧
 ∀s,s∈set.foldl (fun out x=>((Q5 p x).arms.map Arm.label).foldl putN out) out↔s∈out∨∃a∈armsN p set,a.label=s
 |[],out,h=>⟨h,fun s=>by simp[armsN]⟩
 |x::r,out,h=>by
  rw[List.foldl_cons]
  obtain⟨h1,h2⟩:=labsR_fold p r _ (putF_asc ((Q5 p x).arms.map Arm.label) out h)
  refine⟨h1,fun s=>?_⟩
  rw[h2,putF_mem]
  have hn:∀a,a∈armsN p (x::r)↔a∈(Q5 p x).arms∨a∈armsN p r:=fun a=>by simp[armsN]
  constructor
  ·rintro((h|h)|⟨a,ha,e⟩)
   ·exact .inl h
   ·obtain⟨a,ha,e⟩:=List.mem_map.1 h
    exact .inr ⟨a,(hn a).2 (.inl ha),e⟩
   ·exact .inr ⟨a,(hn a).2 (.inr ha),e⟩
  ·rintro(h|⟨a,ha,e⟩)
   ·exact .inl (.inl h)
   ·rcases(hn a).1 ha with q|q
    ·exact .inl (.inr (List.mem_map.2 ⟨a,q,e⟩))
    ·exact .inr ⟨a,q,e⟩
theorem labsR_eq(p:Prt)(set:List Int):labsR p set=allL p set:=by
 obtain⟨h1,h2⟩:=labsR_fold p set [] asc_nil
 refine asc_ext h1 (allL_asc p set) fun s=>?_
 show s∈set.foldl _ []↔_
 rw[h2,allL_mem];simp
theorem says_count(hv:prtB p=true)(set:List Int):(set.any fun x=>decide ((Q5 p x).arms.length≠(allL p set).length))=set.any fun x=>decide (labsL (Q5 p x)≠allL p set):=by
 rw[Bool.eq_iff_iff,List.any_eq_true,List.any_eq_true]
 refine exists_congr fun x=>and_congr_right fun hx=>?_
 rw[decide_eq_true_eq,decide_eq_true_eq]
 have hd:((Q5 p x).arms.map Arm.label).Nodup:=by
  rcases pntAt_arms hv x with e|h
  ·rw[e];exact List.nodup_nil
  ·exact(arms_all h).2.2
 have hc:=labsL_count hd
 constructor
 ·intro h e;rw[e]at hc;exact h hc.symm
 ·intro h e
  apply h
  have hsub:∀s∈labsL (Q5 p x),s∈allL p set:=fun s hs=>by
   obtain⟨a,ha,rfl⟩:=(labsL_mem _ _).1 hs
   exact allL_mem.2 ⟨a,armsN_mem.2 ⟨x,hx,ha⟩,rfl⟩
  have hl:(labsL (Q5 p x)).length=(allL p set).length:=by omega
  refine asc_ext (labsL_asc _) (allL_asc p set) fun s=>⟨hsub s,fun hs=>?_⟩
  by_cases hq:s∈labsL (Q5 p x)
  ·exact hq
  ·exfalso
   have hn:(s::labsL (Q5 p x)).Nodup:=List.nodup_cons.2 ⟨hq,asc_nodup (labsL_asc _)⟩
   have:=nodup_sub hn (m:=allL p set) fun y hy=>by
    rcases List.mem_cons.1 hy with e|e
    ·rw[e];exact hs
    ·exact hsub y e
   rw[List.length_cons]at this;omega
end Go.Sy
