/- The plain law of equality: keys as rows of bytes, the numbering of keys. -/
import Derived.Lib.ItoaNum
set_option linter.unusedSimpArgs false
set_option linter.unusedVariables false
set_option linter.unusedSectionVars false
namespace Go.Sy
def pln(l:List UInt8):Prop:=∀c∈l,c≠32∧c≠44∧c≠58
def sepd:List UInt8→Prop
 |[]=>True
 |c::_=>c=32∨c=44∨c=58
theorem pln_sepd{c:UInt8}{u r:List UInt8}(h:pln (c::u))(hs:sepd (c::r)):False:=by
 obtain⟨h1,h2,h3⟩:=h c List.mem_cons_self
 rcases hs with h|h|h
 ·exact h1 h
 ·exact h2 h
 ·exact h3 h
theorem pln.tail{c:UInt8}{u:List UInt8}(h:pln (c::u)):pln u:=fun x hx=>h x (List.mem_cons_of_mem _ hx)
theorem pln_split:∀{u v r s:List UInt8},pln u→pln v→sepd r→sepd s→u++r=v++s→u=v∧r=s
 |[],[],_,_,_,_,_,_,h=>⟨rfl,h⟩
 |[],c::v,r,s,_,hv,hr,_,h=>by
  simp only[List.nil_append,List.cons_append]at h
  subst h
  exact(pln_sepd hv hr).elim
 |c::u,[],r,s,hu,_,_,hs,h=>by
  simp only[List.nil_append,List.cons_append]at h
  subst h
  exact(pln_sepd hu hs).elim
 |c::u,d::v,r,s,hu,hv,hr,hs,h=>by
  simp only[List.cons_append,List.cons.injEq]at h
  obtain⟨rfl,h⟩:=h
  obtain⟨h1,h2⟩:=pln_split hu.tail hv.tail hr hs h
  exact⟨by rw[h1],h2⟩
def digs(k:Nat):List UInt8:=if k < 10 then[UInt8.ofNat (48+k)]else[UInt8.ofNat (48+k / 10),UInt8.ofNat (48+k % 10)]
theorem digs_eq{k:Nat}(h:k < 100):Lib.decDigits k=digs k:=by
 unfold digs
 rw[Lib.decDigits]
 split
 ·simp_all
 ·rename_i hk
  rw[Lib.decDigits,dif_pos (by omega)];rfl
def undig:List UInt8→Nat
 |[a]=>a.toNat - 48
 |[a,b]=>(a.toNat - 48) * 10+(b.toNat - 48)
 |_=>0
theorem digs_all:∀k:Fin 100,undig (digs k.val)=k.val∧(digs k.val).all (fun c=>decide (c≠32∧c≠44∧c≠58))=true:=by decide+kernel
theorem digs_pln{k:Nat}(h:k < 100):pln (digs k):=by
 have:=(digs_all ⟨k,h⟩).2
 rw[List.all_eq_true]at this
 exact fun c hc=>by simpa using this c hc
theorem digs_inj{k m:Nat}(hk:k < 100)(hm:m < 100)(h:digs k=digs m):k=m:=by
 have h1:=(digs_all ⟨k,hk⟩).1
 have h2:=(digs_all ⟨m,hm⟩).1
 simp only at h1 h2
 rw[←h1,←h2,h]
section
variable {α β:Type} [DecidableEq α] [DecidableEq β]
end
end Go.Sy
