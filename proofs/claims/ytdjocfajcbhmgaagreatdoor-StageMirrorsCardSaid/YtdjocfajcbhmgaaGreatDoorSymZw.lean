/- Layer: a literal row of functions as an object of its own: bsl i n is the slice over all cells of the object i. -/
import Derived.Test.YtdjocfajcbhmgaaGreatDoorZ21
set_option linter.unusedSimpArgs false
set_option linter.unusedVariables false
set_option linter.unusedSectionVars false
namespace Go.Sy
section
variable {C:Ctx} {n:Nat} {tm:TM} {mm:MM} {o:Oper} {d:Nat}
theorem Kf{Θ:dD}(bI:bz C.P Θ){t:TypeId}{z dG e len yx:Nat}{ag:Bool}{zt Si:Option (List CT)}{MW:Sh}{zv:Value}{parts:Array (Nat×Operand)}{r:List SC}
 (ho:o.op=.buildSlice t len parts)(ht:aZ Θ t=some ⟨z,dG,ag,zt,.slice e⟩)(fm:aZ Θ e=some ⟨1,yx,false,Si,MW⟩)(Aw:∀w,(zeroValue e).run C.P w=.ok zv w)(FP:zv.oneCell'=true)
 (hb:Nat.ble len 16777216=true)(h0:Nat.blt 0 len=true)
 (hl:mY (fun i=>some (i * 1,1)) tm (qM (len * 1)) parts.toList=some r)(FY:r.all SC.known=true)
 (hi:getM mm d=none)(hd:o.dst=some d)(hn:Nat.blt d n=true):
 yW C n o tm mm ((d,.v (.one (.td d len)))::bw tm d) ((d,.box r)::mm):=by
 intro a w ⟨H,Z,hm⟩
 obtain⟨inf,de,hf⟩:=jH bI ht
 obtain⟨lX,yU,iG⟩:=jH bI fm
 have kZ:de=.slice e:=by
  have:=hf.sh
  cases de<;>simp[eR]at this⊢
  exact this
 subst kZ
 have CD:len≤16777216:=fR.mp hb
 have hl0:0 < len:=aY.mp h0
 have sR:zv.cells=#[zv]:=by cases zv<;>first|rfl|cases FP
 let init:Array Value:=(Array.range (len * 1)).map (zv.cells[·% zv.cells.size]!)
 have hp:Pw (fun u c=>u.oneCell'=true∧bR (cD mm) H Z w (cU C H mm) u c) init.toList (qM (len * 1)):=by
  rw[yF]
  refine⟨by simp[init],fun j c hc=>?_⟩
  have hj:j < len * 1:=by
   have:=(ai.1 hc).1
   simpa using this
  rw[gM,if_pos hj]at hc
  injection hc with hc;subst hc
  refine⟨zv,?_,FP,trivial⟩
  have AI:j < len:=by omega
  simp[init,AI,sR,Nat.mod_one]
 obtain⟨lN,g1,g2⟩:=ks hm _ parts.toList _ _ r hp hl
 have dQ:(execOp a.eval o).run C.P w=.ok (.value (.slice (some ⟨w.heap.size,0,none⟩) len len)) (w.alloc (.cells lN e)):=by
  have jm:Instr.fill (fun i=>some (i * 1,1)) init (parts.map fun(i,x)=>(i,a.eval x)).toList=some lN:=by
   rw[←g1,mW]
  simp only[execOp,ho,Instr.buildSlice,Sem.run_bind,hf.underlying,Result.andThen_ok,iG.sizeOf]
  rw[if_neg (by omega)]
  simp only[init]at jm
  rw[if_neg (by omega)]
  simp only[Sem.run_bind,Sem.run_pure,Result.andThen_ok,Aw,jm]
  simp[newRow,newObj,Sem.run]
 refine .inl ⟨_,_,dQ,jf H d (.pointer (some ⟨w.heap.size,0,none⟩)),jf Z d 0,?_⟩
 rw[hd]
 refine hm.add (i:=d) (hv:=.pointer (some ⟨w.heap.size,0,none⟩)) (z:=0) (o:=.box r) (getM_none hi) (aY.mp hn) J (eE w _) ?_ ?_ ?_
 ·intro b hb
  simp[Hb,hblk]at hb
  subst hb
  exact⟨aA _,by show _ < (w.heap.push _).size;rw[iL];omega⟩
 ·intro iH iA
  refine⟨w.heap.size,e,lN,bc _ _ _,oK w _,by simpa using g2.1,fun j c hc=>?_⟩
  obtain⟨u,hu,h1,cL⟩:=g2.2 j c hc
  refine⟨u,by simpa using hu,h1,cL.mono (fun k _ hk=>?_) (eE w _).size iA iH⟩
  have cj:k≠d:=fun e=>getM_none hi (e▸hk)
  exact⟨let⟨p,hp,e⟩:=hk;⟨p,ab _ hp,e⟩,bx _ _ cj,bx _ _ cj⟩
 ·exact⟨⟨_,ah,rfl⟩,w.heap.size,by rw[bc];rfl,rfl⟩
theorem Kg{Θ:dD}(bI:bz C.P Θ){t:TypeId}{x:Operand}{z dG e i m:Nat}{ag:Bool}{zr:Option (List CT)}
 (ho:o.op=.call {callee:=.builtin .len,args:=#[x],argTypes:=#[t]})(ht:aZ Θ t=some ⟨z,dG,ag,zr,.slice e⟩)(hx:aW tm x=some (.td i m))(hd:o.dst=some d)(hn:Nat.blt d n=true):
 eO C n o tm mm d (.v (.one (.c (.int .i64 (m:Int))))):=
 eO.val hd hn _ fun H Z a w hm=>by
  obtain⟨_,b,_,hv⟩:=aX hm hx
  obtain⟨inf,de,hf⟩:=jH bI ht
  have kZ:de=.slice e:=by
   have:=hf.sh
   cases de<;>simp[eR]at this⊢
   exact this
  subst kZ
  refine⟨.int .i64 (m:Int),?_,.int _ _⟩
  simp[execOp,ho,resolve,invoke,builtin,Builtin.len_,hf.underlying,hv,goInt]
theorem Kh{Θ:dD}(bI:bz C.P Θ){t:TypeId}{x y:Operand}{z dG e i m yx:Nat}{ag Rz:Bool}{zr PE:Option (List CT)}{MW:Sh}{k:Nat}
 (ho:o.op=.indexAddr t x y)(ht:aZ Θ t=some ⟨z,dG,ag,zr,.slice e⟩)(fm:aZ Θ e=some ⟨1,yx,Rz,PE,MW⟩)(hx:aW tm x=some (.td i m))(hy:aW tm y=some (.c (.int .i64 (k:Int))))(hk:Nat.blt k m=true)(hd:o.dst=some d)(hn:Nat.blt d n=true):
 eO C n o tm mm d (.v (.one (.ptr i k))):=
 eO.val hd hn _ fun H Z a w hm=>by
  obtain⟨hI,b,hb,hv⟩:=aX hm hx
  have h2:a.eval y=.int .i64 (k:Int):=a7.cH (aX hm hy)
  obtain⟨inf,de,hf⟩:=jH bI ht
  obtain⟨lX,yU,iG⟩:=jH bI fm
  have kZ:de=.slice e:=by
   have:=hf.sh
   cases de<;>simp[eR]at this⊢
   exact this
  subst kZ
  have bo:k < m:=aY.mp hk
  refine⟨.pointer (some ⟨b,k,none⟩),?_,hI,b,hb,rfl⟩
  have e1:(⟨b,0,none⟩:Addr).add k=⟨b,k,none⟩:=by rw[jF];simp
  simp[execOp,ho,hv,h2,Instr.indexAt,asIntOf,hf.underlying,iG.sizeOf,e1]
  omega
end
section
variable {C:Ctx} {n:Nat} {tm:TM} {mm:MM} {L l:List Oper} {T:TM→MM→Prop} {o:Oper} {d:Nat} {x y:Operand}
theorem MY{Θ:dD}(bI:bz C.P Θ){t:TypeId}{z dG e len yx:Nat}{ag:Bool}{zt Si:Option (List CT)}{MW:Sh}{zv:Value}{parts:Array (Nat×Operand)}{r:List SC}
 (ho:o.op=.buildSlice t len parts)(ht:aZ Θ t=some ⟨z,dG,ag,zt,.slice e⟩)(fm:aZ Θ e=some ⟨1,yx,false,Si,MW⟩)(Aw:∀w,(zeroValue e).run C.P w=.ok zv w)(FP:zv.oneCell'=true)
 (hb:Nat.ble len 16777216=true)(h0:Nat.blt 0 len=true)
 (hl:mY (fun i=>some (i * 1,1)) tm (qM (len * 1)) parts.toList=some r)(FY:r.all SC.known=true)
 (hi:getM mm d=none)(hd:o.dst=some d)(hn:Nat.blt d n=true)(hg:bp L tm o=some true)
 (g:SOps C n L.toArray l ((d,.v (.one (.td d len)))::bw tm d) ((d,.box r)::mm) T):SOps C n L.toArray (o::l) tm mm T:=
 dO (Kf bI ho ht fm Aw FP hb h0 hl FY hi hd hn).wp hg g
theorem MZ{Θ:dD}(bI:bz C.P Θ){t:TypeId}{z dG e i m:Nat}{ag:Bool}{zr:Option (List CT)}
 (ho:o.op=.call {callee:=.builtin .len,args:=#[x],argTypes:=#[t]})(ht:aZ Θ t=some ⟨z,dG,ag,zr,.slice e⟩)(hx:aW tm x=some (.td i m))(hd:o.dst=some d)(hn:Nat.blt d n=true)(hg:bp L tm o=some true)
 (g:SOps C n L.toArray l ((d,.v (.one (.c (.int .i64 (m:Int)))))::bw tm d) mm T):SOps C n L.toArray (o::l) tm mm T:=
 dO (Kg bI ho ht hx hd hn).wp hg g
theorem tB{Θ:dD}(bI:bz C.P Θ){t:TypeId}{z dG e i m yx:Nat}{ag Rz:Bool}{zr PE:Option (List CT)}{MW:Sh}(k:Nat)
 (ho:o.op=.indexAddr t x y)(ht:aZ Θ t=some ⟨z,dG,ag,zr,.slice e⟩)(fm:aZ Θ e=some ⟨1,yx,Rz,PE,MW⟩)(hx:aW tm x=some (.td i m))(hy:aW tm y=some (.c (.int .i64 (k:Int))))(hk:Nat.blt k m=true)(hd:o.dst=some d)(hn:Nat.blt d n=true)(hg:bp L tm o=some true)
 (g:SOps C n L.toArray l ((d,.v (.one (.ptr i k)))::bw tm d) mm T):SOps C n L.toArray (o::l) tm mm T:=
 dO (Kh bI ho ht fm hx hy hk hd hn).wp hg g
theorem p8{Θ:dD}(bI:bz C.P Θ){t:TypeId}{ti:gD}{i off:Nat}{cs xs:List SC}{s:SV}
 (ho:o.op=.load t x)(ht:aZ Θ t=some ti)(hx:aW tm x=some (.ptr i off))(hi:getM mm i=some (.box cs))
 (hs:vu cs off ti.size=some xs)(hv:qn id ti.agg xs=some s)(hd:o.dst=some d)(hn:Nat.blt d n=true)(hg:bp L tm o=some true)
 (g:SOps C n L.toArray l ((d,.v s)::bw tm d) mm T):SOps C n L.toArray (o::l) tm mm T:=
 dO (sk bI ho ht hx hi hs hv hd hn).wp hg g
end
end Go.Sy
