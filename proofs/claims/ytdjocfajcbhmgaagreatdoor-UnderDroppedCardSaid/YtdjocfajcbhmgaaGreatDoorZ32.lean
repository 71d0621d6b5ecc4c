/- Contracts: under.Pairs, under.Is. -/
import Derived.Test.YtdjocfajcbhmgaaGreatDoorAu
import Derived.Test.YtdjocfajcbhmgaaGreatDoorZ31
set_option maxHeartbeats 64000000
set_option linter.unusedSimpArgs false
set_option linter.unusedVariables false
set_option linter.unusedSectionVars false
namespace Go.Sy
open Go.Proofs
set_option maxRecDepth 100000
attribute [local irreducible] SOps Goes DOps EOps
theorem Qb{a b:MO}(h:a=b):Jk a b:=by subst h;exact .refl _
theorem DP{b:Bk}(hb:eJ b=true){p:Int×Int}(hp:GH b.nodes.length p):
 er Tryz.prog 106 [] [Ag b.cs,Ag [.int .i64 p.1,.int .i64 p.2]] (uB (ke b p)) []:=by
 obtain⟨h1,h2,h3,h4⟩:=hp
 obtain⟨hm,i,e1,hi,q1⟩:=oL h1 h2
 obtain⟨_,j,e2,hj,q2⟩:=oL h3 h4
 have h6:=(ta (p5 hb hm)).1
 rw[q1]at h6
 have:=SY b i j hi hj h6
 unfold ke
 rw[q1,q2,e1,e2]
 exact this
structure xW(b:Bk)(R:Option (List (Int×Int)))(i:Nat)(out:List (Int×Int)):Prop where
 le:i≤out.length
 nd:out.Nodup
 rg:∀p∈out,GH b.nodes.length p
 run:B2 b (b.nodes.length * b.nodes.length+1 - i) i out=R
theorem xW.len{b:Bk}{R:Option (List (Int×Int))}{i:Nat}{out:List (Int×Int)}(hb:eJ b=true)(h:xW b R i out):out.length≤160000∧out.length≤b.nodes.length * b.nodes.length:=by
 have h1:=K6 h.nd h.rg
 have h2:=SO hb
 have h3:b.nodes.length * b.nodes.length≤400 * 400:=Nat.mul_le_mul h2 h2
 omega
theorem xW.fail{b:Bk}{R:Option (List (Int×Int))}{i:Nat}{out:List (Int×Int)}(hb:eJ b=true)(h:xW b R i out)(hi:i < out.length)(ha:ke b out[i]=none):R=none:=by
 have h1:=h.len hb
 have h2:=h.run
 rw[show b.nodes.length * b.nodes.length+1 - i=(b.nodes.length * b.nodes.length - i)+1 by omega]at h2
 simp[B2,hi,ha]at h2
 exact h2.symm
theorem xW.next{b:Bk}{R:Option (List (Int×Int))}{i:Nat}{out l:List (Int×Int)}(hb:eJ b=true)(h:xW b R i out)(hi:i < out.length)(ha:ke b out[i]=some l):xW b R (i+1) (fG out l):=by
 have h1:=h.len hb
 have h2:=h.run
 rw[show b.nodes.length * b.nodes.length+1 - i=(b.nodes.length * b.nodes.length - i)+1 by omega]at h2
 simp[B2,hi,ha]at h2
 obtain⟨r,hr⟩:=rh l out
 refine⟨by rw[hr,au];omega,nR h.nd,fun p hp=>?_,?_⟩
 ·rcases nS.1 hp with hp|hp
  ·exact h.rg p hp
  ·exact Bs hb (h.rg _ (an hi)) ha p hp
 ·rw[show b.nodes.length * b.nodes.length+1 - (i+1)=b.nodes.length * b.nodes.length - i by omega]
  exact h2
theorem xW.stop{b:Bk}{R:Option (List (Int×Int))}{i:Nat}{out:List (Int×Int)}(hb:eJ b=true)(h:xW b R i out)(hi:¬i < out.length):R=some out:=by
 have h1:=h.len hb
 have h3:=h.le
 have h2:=h.run
 rw[show b.nodes.length * b.nodes.length+1 - i=(b.nodes.length * b.nodes.length - i)+1 by omega]at h2
 simp[B2,show out[i]? =none by simp;omega]at h2
 exact h2.symm
theorem xK{b:Bk}(hb:eJ b=true){p:Int×Int}(hp:GH b.nodes.length p){l:List (Int×Int)}(h:ke b p=some l):l.length≤18:=by
 have h6:=(ta (p5 hb (oL hp.1 hp.2.1).1)).1
 unfold ke qz at h
 split at h
 ·have:=tK h;omega
 ·cases h
theorem MK(l:List (Int×Int))(p:Int×Int):(lR l p).length≤l.length+1:=by
 unfold lR;split<;>simp
theorem xU:∀(m l:List (Int×Int)),(fG l m).length≤l.length+m.length
 |[],l=>by simp[fG]
 |p::m,l=>by
  have h1:=xU m (lR l p)
  have h2:=MK l p
  show(fG (lR l p) m).length≤_
  simp only[cd];omega
theorem uF{out l:List (Int×Int)}{k:Nat}(hk:k < l.length):fG out (l.take (k+1))=lR (fG out (l.take k)) l[k]:=by
 rw[al hk]
 show List.foldl lR out (l.take k++[l[k]])=_
 rw[ee];rfl
theorem AD(b:Bk)(x y:Int):er Tryz.prog 61 [] [Ag b.cs,C1 (.int .i64 x),C1 (.int .i64 y)] (uB (iM b x y)) []:=by
 refine bn (c:=_) Tryz.func61 rfl rfl rfl (by decide) fun w M0 H Z=>?_
 repeat'(first|refine aA ?_|(refine aB ?_ ?_<;>first|exact aD|(refine aE ?_;intro hb))|refine aZ th Tryz.func61 (.inr ⟨_,rfl⟩) J J J ?_ rfl|((first|refine aR (tI b) [] J J J J J J J J J J ?_|refine aR (Ck b _ _) [] J J J J J J J J J J ?_|refine JL (m:=[]) th (.inr rfl) J J J J J J J J J ?_);refine ao th J ?_))
 ·rw[show iM b x y=none by simp[iM,hb]]
  exact .fo (.cons (.one (.c (.nil 2))) (.cons (.refl _) .nil))
 ·rw[show iM b x y=none by simp[iM,hb]]
  exact .fo (.cons (.one (.c (.nil 2))) (.cons (.refl _) .nil))
 ·rename_i Dl
  have hP:xW b (iM b x y) 0 [(x,y)]:=by
   refine⟨aF _,by simp,fun p hp=>?_,by simp[iM,Dl,hb]⟩
   simp at hp;subst hp
   simp[jv]at hb
   simp only[GH]
   omega
  refine fz (xW b (iM b x y))
   (fun i out=>[(3,.v (.one (.ptr 3 0))),(8,.v (.one (.own 29))),(9,.v (.one (.mp 30))),(10,.v (C1 (.int .i64 (i:Int))))])
   (fun i out=>[(3,.box [.c (mo b.nodes),.c (bL b.names),.c (ch b.roots)]),(29,.arr false 132 2 (out.map rS)),(30,BY out)])
   (fun i _=>b.nodes.length * b.nodes.length - i) 0 [(x,y)] hP
   (aH (h2:=by exact⟨⟨_,rfl,.refl _⟩,⟨_,rfl,fE J⟩,⟨_,rfl,Qb (by simp[lR])⟩,trivial⟩)) (fun i out hI ih=>?_)
  have hlen:=hI.len Dl
  by_cases bj:i < out.length
  ·have VG:(out.map rS)[i]? =some [.int .i64 out[i].1,.int .i64 out[i].2]:=by simp[bj]
   have cY:=DP Dl (hI.rg _ (an bj))
   cases hA:ke b out[i]with
   |none=>
    rw[hA]at cY
    simp only[uB,Option.getD_none,lJ]at cY
    repeat'(first|refine aA ?_|(refine aB ?_ ?_<;>first|exact aD|(refine aE ?_;intro hb))|refine aZ th Tryz.func61 (.inr ⟨_,rfl⟩) J J J ?_ rfl|((first|refine Bn th J J J J J J J J J J i J (by simpa using bj) ?_|refine vz th _ J J J J VG J J J J J ?_|refine mw cY [] J J J J J J J J J J J ?_);refine dP th J ?_))
    all_goals
     rw[hI.fail Dl bj hA]
     exact .fo (.cons (.one (.c (.nil 2))) (.cons (.refl _) .nil))
   |some l=>
    rw[hA]at cY
    simp only[uB,gk,lI]at cY
    have hl18:=xK Dl (hI.rg _ (an bj)) hA
    repeat'(first|refine aA ?_|(refine aB ?_ ?_<;>first|exact aD|(refine aE ?_;intro hb))|refine aZ th Tryz.func61 (.inr ⟨_,rfl⟩) J J J ?_ rfl|((first|refine Bn th J J J J J J J J J J i J (by simpa using bj) ?_|refine vz th _ J J J J VG J J J J J ?_|refine mw cY [] J J J J J J J J J J J ?_);refine dP th J ?_))
    refine bE (fun k:Nat=>k≤l.length)
     (fun k=>[(3,.v (.one (.ptr 3 0))),(8,.v (.one (.own 29))),(9,.v (.one (.mp 30))),(10,.v (C1 (.int .i64 (i:Int)))),(52,.v (C1 (oI l))),(53,.v (C1 (.int .i64 (l.length:Int)))),(54,.v (C1 (.int .i64 (k:Int))))])
     (fun k=>[(3,.box [.c (mo b.nodes),.c (bL b.names),.c (ch b.roots)]),(29,.arr false 132 2 ((fG out (l.take k)).map rS)),(30,BY (fG out (l.take k)))])
     (fun k=>l.length - k) 0 (aF _)
     aH (fun k hk n9=>?_)
    have BI:=xU (l.take k) out
    rw[aO]at BI
    by_cases uV:k < l.length
    ·have Oz:(l.map rS)[k]? =some [.int .i64 l[k].1,.int .i64 l[k].2]:=by simp[uV]
     have Tp:=uF (out:=out) uV
     have cT:=n9 (k+1) uV (by omega)
     rw[Tp]at cT
     repeat'(first|refine aA ?_|(refine aB ?_ ?_<;>first|exact aD|(refine aE ?_;intro hb))|refine aZ th Tryz.func61 (.inr ⟨_,rfl⟩) J J J ?_ rfl|((first|refine bO th J J J J J J J J J k _ J Oz ?_|refine P5 th J J J J J J J J J J J ?_|refine JL th (.inl rfl) J J J J J J J J J ?_);refine ao th J ?_)|(refine eo th J J J J J J J J J J J J J J J (by constructor<;>simp<;>omega) ?_;refine ao th J ?_)|(refine bH J J J J J J (by omega) ?_;refine ao th J ?_))
     all_goals
      refine GX ?_ ?_ rfl rfl rfl cT
      ·exact⟨⟨_,rfl,.refl _⟩,⟨_,rfl,.refl _⟩,⟨_,rfl,.refl _⟩,⟨_,rfl,.refl _⟩,⟨_,rfl,.refl _⟩,⟨_,rfl,.refl _⟩,⟨_,rfl,eM (by omega)⟩,trivial⟩
      refine⟨⟨_,rfl,.refl _⟩,⟨_,rfl,fE ?_⟩,⟨_,rfl,Qb ?_⟩,trivial⟩
      all_goals simp[lR,hb]
    ·have gv:k=l.length:=by omega
     subst gv
     rw[bq]
     have cT:=ih (i+1) (fG out l) (hI.next Dl bj hA) (by omega)
     repeat'(first|refine aA ?_|(refine aB ?_ ?_<;>first|exact aD|(refine aE ?_;intro hb))|refine aZ th Tryz.func61 (.inr ⟨_,rfl⟩) J J J ?_ rfl|(refine bH J J J J J J (by omega) ?_;refine ao th J ?_))
     all_goals exact aS cT
  ·rw[hI.stop Dl bj]
   repeat'(first|refine aA ?_|(refine aB ?_ ?_<;>first|exact aD|(refine aE ?_;intro hb))|refine aZ th Tryz.func61 (.inr ⟨_,rfl⟩) J J J ?_ rfl|(refine dY 29 J J ?_))
   all_goals exact .refl _
def E7(b:Bk)(x y:Int):Bool:=(iM b x y).isSome
theorem Im(b:Bk)(x y:Int):er Tryz.prog 23 [] [Ag b.cs,C1 (.int .i64 x),C1 (.int .i64 y)] (Rv (.bool (E7 b x y))) []:=by
 refine bn (c:=_) Tryz.func23 rfl rfl rfl (by decide) fun w M0 H Z=>?_
 repeat'(first|refine aA ?_|(refine aB ?_ ?_<;>first|exact aD|(refine aE ?_;intro hb))|refine dw th Tryz.func23 (.inr ⟨_,rfl⟩) J J J ⟨?_,rfl⟩|(refine aR (AD b x y) [] J J J J J J J J J J ?_;refine ao th J ?_)|(refine mw (AD b x y) [] J J J J J J J J J J J ?_;refine dP th J ?_))
 all_goals simp[dd,E7]
def w8(b:Bk)(l:List (Int×Int))(p:Int×Int):Bool:=
 match ke b p with
 |none=>false
 |some w=>w.all fun q=>decide (q∈l)
def oT(b:Bk)(l:List (Int×Int)):Bool:=eJ b&&((l.all fun p=>jv b.nodes.length p.1 p.2)&&l.all (w8 b l))
theorem EG{n:Nat}{p:Int×Int}(h:jv n p.1 p.2=true):GH n p:=by
 simp[jv]at h
 simp only[GH]
 omega
theorem oN{l:List (Int×Int)}{q:Int×Int}:q∈fG [] l↔q∈l:=by rw[nS];simp
theorem OE(b:Bk)(l:List (Int×Int)):er Tryz.prog 62 [] [Ag b.cs,C1 (oI l)] (Rv (.bool (oT b l))) []:=by
 refine bn (c:=_) Tryz.func62 rfl rfl rfl (by decide) fun w M0 H Z=>?_
 repeat'(first|refine aA ?_|(refine aB ?_ ?_<;>first|exact aD|(refine aE ?_;intro hb))|refine dw th Tryz.func62 (.inr ⟨_,rfl⟩) J J J ⟨?_,rfl⟩|(refine aR (tI b) [] J J J J J J J J J J ?_;refine ao th J ?_))
 ·simp[dd,oT,hb]
 ·refine il 1 J fun nw=>?_
  simp only[ak]at nw
  refine bE (fun k:Nat=>k≤l.length∧(l.take k).all (fun p=>jv b.nodes.length p.1 p.2)=true)
   (fun k=>[(1,.v (C1 (oI l))),(2,.v (.one (.ptr 2 0))),(5,.v (.one (.mp 17))),(18,.v (C1 (oI l))),(19,.v (C1 (.int .i64 (l.length:Int)))),(20,.v (C1 (.int .i64 (k:Int))))])
   (fun k=>[(2,.box [.c (mo b.nodes),.c (bL b.names),.c (ch b.roots)]),(17,BY (fG [] (l.take k)))])
   (fun k=>l.length - k) 0 ⟨aF _,rfl⟩
   aH (fun k hk ih=>?_)
  obtain⟨hk,b6⟩:=hk
  by_cases bj:k < l.length
  ·have Oz:(l.map rS)[k]? =some [.int .i64 l[k].1,.int .i64 l[k].2]:=by simp[bj]
   have Tp:=uF (out:=[]) bj
   repeat'(first|refine aA ?_|(refine aB ?_ ?_<;>first|exact aD|(refine aE ?_;intro hb))|refine dw th Tryz.func62 (.inr ⟨_,rfl⟩) J J J ⟨?_,rfl⟩|((first|refine bO th J J J J J J J J J k _ J Oz ?_|refine aR (Ck b _ _) [] J J J J J J J J J J ?_|refine JL th (.inl rfl) J J J J J J J J J ?_|refine bH J J J J J J (by omega) ?_);refine ao th J ?_))
   ·have:(l.all fun p=>jv b.nodes.length p.1 p.2)=false:=dC.2 ⟨l[k],an bj,by simp[hb]⟩
    simp[dd,oT,this]
   ·have cT:=ih (k+1) ⟨bj,by rw[al bj,dR,b6];simp[hb]⟩ (by omega)
    rw[Tp]at cT
    exact aS cT
  ·have gv:k=l.length:=by omega
   subst gv
   rw[bq]at b6⊢
   clear ih
   repeat'(first|refine aA ?_|(refine aB ?_ ?_<;>first|exact aD|(refine aE ?_;intro hb))|refine dw th Tryz.func62 (.inr ⟨_,rfl⟩) J J J ⟨?_,rfl⟩)
   refine bE (fun k:Nat=>k≤l.length∧(l.take k).all (w8 b l)=true)
    (fun k=>[(2,.v (.one (.ptr 2 0))),(5,.v (.one (.mp 17))),(31,.v (C1 (oI l))),(32,.v (C1 (.int .i64 (l.length:Int)))),(33,.v (C1 (.int .i64 (k:Int))))])
    (fun k=>[(2,.box [.c (mo b.nodes),.c (bL b.names),.c (ch b.roots)]),(17,BY (fG [] l))])
    (fun k=>l.length - k) 0 ⟨aF _,rfl⟩
    aH (fun k hk ih=>?_)
   obtain⟨hk,Qt⟩:=hk
   by_cases oV:k < l.length
   ·have Oz:(l.map rS)[k]? =some [.int .i64 l[k].1,.int .i64 l[k].2]:=by simp[oV]
    have Dl:eJ b=true:=by assumption
    have hR:=EG (a7.1 b6 l[k] (an oV))
    have cY:=DP Dl hR
    have fQ:w8 b l l[k]=false→oT b l=false:=fun h=>by
     have:l.all (w8 b l)=false:=dC.2 ⟨l[k],an oV,by simp[h]⟩
     simp[oT,this]
    cases hA:ke b l[k]with
    |none=>
     rw[hA]at cY
     simp only[uB,Option.getD_none,lJ]at cY
     repeat'(first|refine aA ?_|(refine aB ?_ ?_<;>first|exact aD|(refine aE ?_;intro hb))|refine dw th Tryz.func62 (.inr ⟨_,rfl⟩) J J J ⟨?_,rfl⟩|((first|refine bO th J J J J J J J J J k _ J Oz ?_|refine aR cY [] J J J J J J J J J J ?_);refine ao th J ?_))
     all_goals simp[dd,fQ (by simp[w8,hA])]
    |some ws=>
     rw[hA]at cY
     simp only[uB,gk,lI]at cY
     have hw18:=xK Dl hR hA
     repeat'(first|refine aA ?_|(refine aB ?_ ?_<;>first|exact aD|(refine aE ?_;intro hb))|refine dw th Tryz.func62 (.inr ⟨_,rfl⟩) J J J ⟨?_,rfl⟩|((first|refine bO th J J J J J J J J J k _ J Oz ?_|refine aR cY [] J J J J J J J J J J ?_);refine ao th J ?_))
     refine bE (fun m:Nat=>m≤ws.length∧(ws.take m).all (fun q=>decide (q∈l))=true)
      (fun m=>[(2,.v (.one (.ptr 2 0))),(5,.v (.one (.mp 17))),(31,.v (C1 (oI l))),(32,.v (C1 (.int .i64 (l.length:Int)))),(33,.v (C1 (.int .i64 (k:Int)))),(45,.v (C1 (oI ws))),(46,.v (C1 (.int .i64 (ws.length:Int)))),(47,.v (C1 (.int .i64 (m:Int))))])
      (fun m=>[(2,.box [.c (mo b.nodes),.c (bL b.names),.c (ch b.roots)]),(17,BY (fG [] l))])
      (fun m=>ws.length - m) 0 ⟨aF _,rfl⟩
      aH (fun m hm Ud=>?_)
     obtain⟨hm,gf⟩:=hm
     by_cases Qo:m < ws.length
     ·have VF:(ws.map rS)[m]? =some [.int .i64 ws[m].1,.int .i64 ws[m].2]:=by simp[Qo]
      repeat'(first|refine aA ?_|(refine aB ?_ ?_<;>first|exact aD|(refine aE ?_;intro hb))|refine dw th Tryz.func62 (.inr ⟨_,rfl⟩) J J J ⟨?_,rfl⟩|((first|refine bO th J J J J J J J J J m _ J VF ?_|refine P5 th J J J J J J J J J J J ?_|refine bH J J J J J J (by omega) ?_);refine ao th J ?_))
      ·have hn:ws[m]∉l:=fun h=>by
        have:=oN.2 h
        simp_all
       have:(ws.all fun q=>decide (q∈l))=false:=dC.2 ⟨ws[m],an Qo,by simp[hn]⟩
       simp[dd,fQ (by simp only[w8,hA];exact this)]
      ·have hy:ws[m]∈l:=by
        refine oN.1 ?_
        simp_all
       have cT:=Ud (m+1) ⟨Qo,by rw[al Qo,dR,gf];simp[hy]⟩ (by omega)
       exact aS cT
     ·have OG:m=ws.length:=by omega
      subst OG
      rw[bq]at gf
      have cT:=ih (k+1) ⟨oV,by rw[al oV,dR,Qt];simp[w8,hA];simpa using gf⟩ (by omega)
      repeat'(first|refine aA ?_|(refine aB ?_ ?_<;>first|exact aD|(refine aE ?_;intro hb))|refine dw th Tryz.func62 (.inr ⟨_,rfl⟩) J J J ⟨?_,rfl⟩|(refine bH J J J J J J (by omega) ?_;refine ao th J ?_))
      all_goals exact aS cT
   ·have gv:k=l.length:=by omega
    subst gv
    rw[bq]at Qt
    repeat'(first|refine aA ?_|(refine aB ?_ ?_<;>first|exact aD|(refine aE ?_;intro hb))|refine dw th Tryz.func62 (.inr ⟨_,rfl⟩) J J J ⟨?_,rfl⟩)
    all_goals simp_all[dd,oT]
end Go.Sy
