/- The plain law of the reference's rows: Put, Sorted, the nearest points. -/
import Derived.Test.YtademmkjmpgplaaGreatDoorMj1
set_option linter.unusedSimpArgs false
set_option linter.unusedVariables false
set_option linter.unusedSectionVars false
namespace Go.Sy
def insN(s:ByteArray):List ByteArray→List ByteArray
 |[]=>[s]
 |x::l=>if sLt x s then x::insN s l else if x=s then x::l else s::x::l
def PutR(l:List ByteArray)(s:ByteArray):List ByteArray:=l.foldl (fun o x=>insN x o) [s]
theorem insN_mem{s x:ByteArray}:∀{l:List ByteArray},x∈insN s l↔x=s∨x∈l
 |[]=>by simp[insN]
 |y::l=>by
  rw[insN]
  split
  ·rw[List.mem_cons,insN_mem,List.mem_cons]
   constructor
   ·rintro(h|h|h)
    ·exact .inr (.inl h)
    ·exact .inl h
    ·exact .inr (.inr h)
   ·rintro(h|h|h)
    ·exact .inr (.inl h)
    ·exact .inl h
    ·exact .inr (.inr h)
  ·split
   ·rename_i h
    subst h
    constructor
    ·exact fun h=>.inr h
    ·rintro(h|h)
     ·rw[h];exact List.mem_cons_self
     ·exact h
   ·rw[List.mem_cons]
theorem insN_asc{s:ByteArray}:∀{l:List ByteArray},Asc l→Asc (insN s l)
 |[],_=>by simp[insN,Asc]
 |x::l,h=>by
  obtain⟨h1,h2⟩:=List.pairwise_cons.1 h
  rw[insN]
  split
  ·rename_i hx
   refine List.pairwise_cons.2 ⟨fun y hy=>?_,insN_asc h2⟩
   rcases insN_mem.1 hy with e|e
   ·rw[e];exact hx
   ·exact h1 y e
  ·rename_i hx
   split
   ·exact h
   ·rename_i hne
    have hsx:sLt s x=true:=by
     cases hc:sLt s x with
     |true=>rfl
     |false=>exact absurd (sLt_tri (by simpa using hx) hc) hne
    refine List.pairwise_cons.2 ⟨fun y hy=>?_,h⟩
    rcases List.mem_cons.1 hy with e|e
    ·rw[e];exact hsx
    ·exact sLt_trans hsx (h1 y e)
theorem putR_fold:∀(l out:List ByteArray),Asc out→Asc (l.foldl (fun o x=>insN x o) out)∧∀x,x∈l.foldl (fun o x=>insN x o) out↔x∈out∨x∈l
 |[],out,h=>⟨h,fun x=>by simp⟩
 |y::l,out,h=>by
  rw[List.foldl_cons]
  obtain⟨h1,h2⟩:=putR_fold l _ (insN_asc (s:=y) h)
  refine⟨h1,fun x=>?_⟩
  rw[h2,insN_mem,List.mem_cons]
  constructor
  ·rintro((h|h)|h)
   ·exact .inr (.inl h)
   ·exact .inl h
   ·exact .inr (.inr h)
  ·rintro(h|h|h)
   ·exact .inl (.inr h)
   ·exact .inl (.inl h)
   ·exact .inr h
theorem putR_eq(l:List ByteArray)(s:ByteArray):PutR l s=putN l s:=by
 obtain⟨h1,h2⟩:=putR_fold l [s] (List.pairwise_singleton _ _)
 refine asc_ext h1 (putN_asc l s) fun x=>?_
 show x∈l.foldl (fun o x=>insN x o) [s]↔_
 rw[h2,putN_mem,List.mem_singleton]
 exact or_comm
theorem insN_at{s:ByteArray}:∀{l:List ByteArray} {k:Nat},k≤l.length→(∀j (h:j < l.length),j < k→sLt l[j] s=true)→(∀h:k < l.length,sLt l[k] s=false)→
 insN s l=if h:k < l.length then(if l[k]=s then l else l.take k++s::l.drop k)else l++[s]
 |[],k,hk,_,_=>by simp[insN]
 |x::l,0,_,_,h2=>by
  have h:=h2 (by simp)
  rw[List.getElem_cons_zero]at h
  rw[insN,h,dif_pos (by simp)]
  simp
 |x::l,k+1,hk,h1,h2=>by
  have h:=h1 0 (by simp) (by omega)
  rw[List.getElem_cons_zero]at h
  rw[insN,h,if_pos rfl,insN_at (l:=l) (k:=k) (by simpa using hk) (fun j hj hk=>by
   have:=h1 (j+1) (by simpa using hj) (by omega)
   rwa [List.getElem_cons_succ]at this) (fun hl=>by
   have:=h2 (by simpa using hl)
   rwa [List.getElem_cons_succ]at this)]
  by_cases hl:k < l.length
  ·rw[dif_pos hl,dif_pos (by simpa using hl)]
   simp only[List.getElem_cons_succ,List.take_succ_cons,List.drop_succ_cons,List.cons_append]
   split<;>rfl
  ·rw[dif_neg hl,dif_neg (by simpa using hl)];rfl
theorem rch_trans{h:Int→List Arm}{s:List Int}{x y:Int}(hx:Rch h s x)(hy:Rch h [x] y):Rch h s y:=by
 induction hy with
 |base e=>rw[List.mem_singleton.1 e];exact hx
 |step _ ha ih=>exact ih.step ha
variable {p:Prt} {role:ByteArray}
def spanR(p:Prt)(role:ByteArray)(from_:List Int):List Int:=((List.range p.points.length).map Int.ofNat).filter fun x=>decide (x∈waitL p role from_)
theorem span_mem(hp:PrtIn p){l:List Int}{x:Int}:x∈spanR p role l↔x∈waitL p role l:=by
 unfold spanR
 rw[List.mem_filter,decide_eq_true_eq]
 refine⟨fun h=>h.2,fun h=>⟨?_,h⟩⟩
 have hr:=wait_range hp h
 exact List.mem_map.2 ⟨x.toNat,List.mem_range.2 (by omega),by show((x.toNat:Nat):Int)=x;omega⟩
theorem span_near(l:List Int):(spanR p role l).filter (fun x=>inP (Q5 p x) role)=J7 p role l:=by
 unfold spanR J7
 rw[List.filter_filter]
 congr 1
 funext x
 exact Bool.and_comm _ _
theorem mix_span(hp:PrtIn p)(l:List Int):mixE p role l=(decide (0 < (J7 p role l).length)&&(spanR p role l).any (lostL p role)):=by
 unfold mixE
 have h1:(spanR p role l).any (lostL p role)=(waitL p role l).any (lostL p role):=by
  rw[Bool.eq_iff_iff,List.any_eq_true,List.any_eq_true]
  exact⟨fun⟨x,h,k⟩=>⟨x,(span_mem hp).1 h,k⟩,fun⟨x,h,k⟩=>⟨x,(span_mem hp).2 h,k⟩⟩
 have h2:((waitL p role l).any fun x=>!lostL p role x)=decide (0 < (J7 p role l).length):=by
  rw[Bool.eq_iff_iff,List.any_eq_true,decide_eq_true_eq]
  constructor
  ·rintro⟨x,hx,hk⟩
   have hk:(J7 p role [x]).length≠0:=by simpa[lostL]using hk
   obtain⟨y,hy⟩:∃y,y∈J7 p role [x]:=by
    cases h:J7 p role [x]with
    |nil=>rw[h]at hk;exact absurd rfl hk
    |cons y r=>exact⟨y,List.mem_cons_self⟩
   have hr:=wait_range hp hx
   have hx2:=(wait_mem hp l).1 hx
   obtain⟨q1,q2⟩:=(near_mem hp [x]).1 hy
   have:y∈J7 p role l:=(near_mem hp l).2 ⟨rch_trans hx2 ((rch_ext (start_one hr)).1 q1),q2⟩
   exact List.length_pos_of_mem this
  ·intro h
   obtain⟨x,hx⟩:=List.exists_mem_of_length_pos h
   obtain⟨q1,q2⟩:=(near_mem hp l).1 hx
   have hw:=(wait_mem hp l).2 q1
   have hr:=wait_range hp hw
   refine⟨x,hw,?_⟩
   have:J7 p role [x]=[x]:=near_in hp hr q2 fun z=>List.mem_singleton
   unfold lostL
   rw[this];rfl
 rw[h1,h2,Bool.and_comm]
end Go.Sy
