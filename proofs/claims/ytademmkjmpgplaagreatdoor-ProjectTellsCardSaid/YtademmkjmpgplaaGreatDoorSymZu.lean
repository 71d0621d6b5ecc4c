/- Layer: slices of texts. -/
import Derived.Test.YtademmkjmpgplaaGreatDoorMj4
import Derived.Laws.Slices
import Derived.Laws.Strings2
set_option linter.unusedSimpArgs false
set_option linter.unusedVariables false
set_option linter.unusedSectionVars false
namespace Go.Sy
section
variable {C:Ctx} {n:Nat} {tm:TM} {mm:MM} {o:Oper} {d:Nat}
theorem op_strTo{Θ:Tab}(hΘ:QJ C.P Θ){t:TypeId}{x y:Operand}{s:ByteArray}{k:IntKind}{m:Int}{j:Nat}{z bts:Nat}{ag:Bool}{zr:Option (List CT)}
 (ho:o.op=.slice t x none (some y) none)(ht:GW Θ t=some ⟨z,bts,ag,zr,.string⟩)
 (hx:Q0 tm x=some (.c (.str s)))(hi:Q0 tm y=some (.c (.int k m)))(hm:m=(j:Int))(hj:j≤s.size)(hd:o.dst=some d)(hn:Nat.blt d n=true):
 OpV C n o tm mm d (.v (.one (.c (.str (s.extract 0 j))))):=
 OpV.val hd hn _ fun H Z A w hmod=>by
  have h1:A.eval x=.string s:=RepC.str_inv (Q6 hmod hx)
  have h2:A.eval y=.int k m:=RepC.int_inv (Q6 hmod hi)
  obtain⟨inf,de,hf⟩:=tyF hΘ ht
  have hde:de=.string:=by
   have:=hf.sh
   cases de<;>simp[shChk]at this⊢
  subst hde
  subst hm
  refine⟨.string (s.extract 0 j),?_,.str _⟩
  have:=run_slice_string_h (P:=C.P) w t s hf.und k (j:Int) (by omega) (by omega)
  rw[Int.toNat_natCast]at this
  simp[execOp,ho,h1,h2,Instr.sliceAt,hf.underlying,this]
theorem op_strFrom{Θ:Tab}(hΘ:QJ C.P Θ){t:TypeId}{x y:Operand}{s:ByteArray}{k:IntKind}{m:Int}{j:Nat}{z bts:Nat}{ag:Bool}{zr:Option (List CT)}
 (ho:o.op=.slice t x (some y) none none)(ht:GW Θ t=some ⟨z,bts,ag,zr,.string⟩)
 (hx:Q0 tm x=some (.c (.str s)))(hi:Q0 tm y=some (.c (.int k m)))(hm:m=(j:Int))(hj:j≤s.size)(hd:o.dst=some d)(hn:Nat.blt d n=true):
 OpV C n o tm mm d (.v (.one (.c (.str (s.extract j s.size))))):=
 OpV.val hd hn _ fun H Z A w hmod=>by
  have h1:A.eval x=.string s:=RepC.str_inv (Q6 hmod hx)
  have h2:A.eval y=.int k m:=RepC.int_inv (Q6 hmod hi)
  obtain⟨inf,de,hf⟩:=tyF hΘ ht
  have hde:de=.string:=by
   have:=hf.sh
   cases de<;>simp[shChk]at this⊢
  subst hde
  subst hm
  refine⟨.string (s.extract j s.size),?_,.str _⟩
  have:=run_slice_string_l (P:=C.P) w t s hf.und k (j:Int) (by omega) (by omega)
  rw[Int.toNat_natCast]at this
  simp[execOp,ho,h1,h2,Instr.sliceAt,hf.underlying,this]
end
section
variable {C:Ctx} {n:Nat} {tm:TM} {mm:MM} {L l:List Oper} {T:TM→MM→Prop} {o:Oper} {d:Nat} {x y:Operand}
theorem s_sliceTo{Θ:Tab}(hΘ:QJ C.P Θ){t:TypeId}{nn:Bool}{sz:Nat}{xs:List (List CT)}{k:IntKind}{m:Int}{e:Nat}{z bts:Nat}{ag:Bool}{zr:Option (List CT)}{ei:TyI}
 (ho:o.op=.slice t x none (some y) none)(ht:GW Θ t=some ⟨z,bts,ag,zr,.slice e⟩)(hei:GW Θ e=some ei)
 (hx:Q0 tm x=some (.c (.slice nn sz xs)))(hi:Q0 tm y=some (.c (.int k m)))(hd:o.dst=some d)(hn:Nat.blt d n=true)(hg:QG L tm o=some true)
 (j:Nat)(hm:m=(j:Int))(hj:j≤xs.length)(g:SOps C n L.toArray l ((d,.v (.one (.c (.slice nn sz (xs.take j)))))::QY tm d) mm T):SOps C n L.toArray (o::l) tm mm T:=
 K0 (op_sliceTo hΘ ho ht hei hx hi hm hj hd hn).wp hg g
theorem s_sliceFrom{Θ:Tab}(hΘ:QJ C.P Θ){t:TypeId}{nn:Bool}{sz:Nat}{xs:List (List CT)}{k:IntKind}{m:Int}{e:Nat}{z bts:Nat}{ag:Bool}{zr:Option (List CT)}{ei:TyI}
 (ho:o.op=.slice t x (some y) none none)(ht:GW Θ t=some ⟨z,bts,ag,zr,.slice e⟩)(hei:GW Θ e=some ei)(hsz:Nat.beq ei.size sz=true)
 (hx:Q0 tm x=some (.c (.slice nn sz xs)))(hi:Q0 tm y=some (.c (.int k m)))(hd:o.dst=some d)(hn:Nat.blt d n=true)(hg:QG L tm o=some true)
 (j:Nat)(hm:m=(j:Int))(hj:j≤xs.length)(g:SOps C n L.toArray l ((d,.v (.one (.c (.slice nn sz (xs.drop j)))))::QY tm d) mm T):SOps C n L.toArray (o::l) tm mm T:=
 K0 (op_sliceFrom hΘ ho ht hei hsz hx hi hm hj hd hn).wp hg g
theorem s_strTo{Θ:Tab}(hΘ:QJ C.P Θ){t:TypeId}{s:ByteArray}{k:IntKind}{m:Int}{z bts:Nat}{ag:Bool}{zr:Option (List CT)}
 (ho:o.op=.slice t x none (some y) none)(ht:GW Θ t=some ⟨z,bts,ag,zr,.string⟩)
 (hx:Q0 tm x=some (.c (.str s)))(hi:Q0 tm y=some (.c (.int k m)))(hd:o.dst=some d)(hn:Nat.blt d n=true)(hg:QG L tm o=some true)
 (j:Nat)(hm:m=(j:Int))(hj:j≤s.size)(g:SOps C n L.toArray l ((d,.v (.one (.c (.str (s.extract 0 j)))))::QY tm d) mm T):SOps C n L.toArray (o::l) tm mm T:=
 K0 (op_strTo hΘ ho ht hx hi hm hj hd hn).wp hg g
theorem s_strFrom{Θ:Tab}(hΘ:QJ C.P Θ){t:TypeId}{s:ByteArray}{k:IntKind}{m:Int}{z bts:Nat}{ag:Bool}{zr:Option (List CT)}
 (ho:o.op=.slice t x (some y) none none)(ht:GW Θ t=some ⟨z,bts,ag,zr,.string⟩)
 (hx:Q0 tm x=some (.c (.str s)))(hi:Q0 tm y=some (.c (.int k m)))(hd:o.dst=some d)(hn:Nat.blt d n=true)(hg:QG L tm o=some true)
 (j:Nat)(hm:m=(j:Int))(hj:j≤s.size)(g:SOps C n L.toArray l ((d,.v (.one (.c (.str (s.extract j s.size)))))::QY tm d) mm T):SOps C n L.toArray (o::l) tm mm T:=
 K0 (op_strFrom hΘ ho ht hx hi hm hj hd hn).wp hg g
end
section
variable {C:Ctx} {n:Nat} {tm tm0:TM} {mm0:MM} {L l:List Oper} {R:List Rec} {T:TM→MM→Prop} {o:Oper} {d i:Nat} {p q:Operand} {ty:TypeId}
theorem e_idxoU{Θ:Tab}(hΘ:QJ C.P Θ){id:Nat}{nn:Bool}{sz:Nat}{xs:List (List CT)}{kd:IntKind}{m:Int}{e e':Nat}{z bts:Nat}{ag:Bool}{zr:Option (List CT)}{ei:TyI}
 (ho:o.op=.indexAddr ty p q)(ht:GW Θ ty=some ⟨z,bts,ag,zr,.slice e⟩)(hei:GW Θ e=some ei)(hx:Q0 (Q9 (GZ L o) tm) p=some (.own id))(hid:J1 mm0 id=some (.arr nn e' sz xs))(hsz:Nat.beq ei.size sz=true)
 (hi:Q0 (Q9 (GZ L o) tm) q=some (.c (.int kd m)))(hd:o.dst=some d)(hn:Nat.blt d n=true)(hg:QG L (Q9 (GZ L o) tm) o=some true)
 (j:Nat)(hm:m=(j:Int))(hj:j < xs.length)(k:EOps C n mm0 L tm0 (i+1) l ((d,.v (.one (.aptr id j 0)))::QY tm d) R T):EOps C n mm0 L tm0 i (o::l) tm R T:=
 EOps.step hg (fun mm' hb hu=>(op_idx_own hΘ ho ht hei hsz hx (mono_get hb hu _ _ hid) hi hm hj hd hn).toX) hd k
theorem e_loadaU{Θ:Tab}(hΘ:QJ C.P Θ){ti:TyI}{r j off e sz:Nat}{nn:Bool}{xs:List (List CT)}{ys:List CT}{s:SV}(cs:List CT)
 (ho:o.op=.load ty p)(ht:GW Θ ty=some ti)(hx:Q0 (Q9 (GZ L o) tm) p=some (.aptr r j off))(hi:J1 mm0 r=some (.arr nn e sz xs))(hj:xs[j]? =some cs)
 (hs:subL cs off ti.size=some ys)(hv:mkV SC.c ti.agg ys=some s)(hd:o.dst=some d)(hn:Nat.blt d n=true)(hg:QG L (Q9 (GZ L o) tm) o=some true)
 (k:EOps C n mm0 L tm0 (i+1) l ((d,.v s)::QY tm d) R T):EOps C n mm0 L tm0 i (o::l) tm R T:=
 EOps.step hg (fun mm' hb hu=>(op_load_aptr hΘ ho ht hx (mono_get hb hu _ _ hi) hj hs hv hd hn).toX) hd k
end
end Go.Sy
