/- From a contract to what a row's frame asks for. -/
import Derived.Test.YtdjocfajcbhmgaaGreatDoorBl1
import Derived.Below
set_option linter.unusedSimpArgs false
set_option linter.unusedVariables false
set_option linter.unusedSectionVars false
namespace Go.Sy
open Go.RowKit
theorem er.top{P:Program}{f:FuncId}{cts:List CT}(hc:er P f [] (cts.map C1) (Rv (.bool true)) []){w:World}{vs:List Value}
 (hv:Pw (fun v c=>aV w (fun _=>False) v c) vs cts):Calls P f vs.toArray w fun e w'=>e=.returned (.bool true)∧Below w.heap.size w w':=by
 have hf:∀(H:Nat→Value) b,¬(False∨bT H (bY given []) b):=by
  rintro H b (h|⟨p,hp,_⟩)
  ·exact h
  ·simp[bY]at hp
 refine(hc.calls w (fun _=>False) (fun _=>.nilFunc) (fun _=>0) vs ⟨fun _ h=>h.elim,fun p hp=>by simp[bY]at hp,fun p hp=>by simp[bY]at hp,fun p hp=>by simp[bY]at hp⟩ ⟨by simpa using hv.1,fun j c GU=>?_⟩).mono ?_
 ·rw[az]at GU
  cases hq:cts[j]? with
  |none=>rw[hq]at GU;cases GU
  |some ct=>
   rw[hq]at GU;injection GU with GU;subst GU
   obtain⟨u,hu,hr⟩:=hv.2 j ct hq
   exact⟨u,hu,aV.mono hr (ay _) (fun _ _ _=>rfl) (fun b _ hb=>hf _ b hb)⟩
 ·rintro e w' ⟨v,rfl,dy,_,hr⟩
  have wY:=aV.pc hr
  subst wY
  exact⟨rfl,(dy.yb (Y:=fun _=>False) fun b _ hb=>hf _ b (.inr hb)).below⟩
theorem NL{w:World}{sz:Nat}:aV w (fun _=>False) (.slice none 0 0) (.slice false sz []):=
 .slice (fun _ _=>undef) J (ay _) (by simp[maxLen]) (fun h=>by cases h) (fun x h=>by cases h) (fun h=>by simp at h) (fun i x h=>by simp at h)
theorem J2{w:World}{x:Addr}{len cap:Nat}{zs:List Int}(hl:len≤cap)(hm:cap≤maxLen)(hz:zs.length=cap)(sc:∀i,i < zs.length→w.cell? (x.add i)=some (.int .i64 (zs.getD i 0))):
 aV w (fun _=>False) (.slice (some x) len cap) (ch (zs.take len)):=by
 have fy:∀(i:Nat) (y:List CT),((zs.take len).map fun r=>[CT.int .i64 r])[i]? =some y→i < zs.length∧y=[CT.int .i64 (zs.getD i 0)]:=by
  intro i y hy
  rw[az,bU]at hy
  split at hy
  ·cases hq:zs[i]? with
   |none=>rw[hq]at hy;cases hy
   |some n=>
    rw[hq]at hy
    injection hy with hy
    exact⟨(ai.1 hq).1,by rw[←hy];simp[hq]⟩
  ·cases hy
 refine .slice (fun i _=>.int .i64 (zs.getD i 0)) (by simp;omega) hl hm (fun h=>by cases h) (fun y hy=>?_) (fun hp=>⟨x,rfl,?_,?_,fun h=>h,fun i y hy j c hc=>?_⟩) (fun i y hy j c hc=>?_)
 ·obtain⟨r,_,rfl⟩:=aL.1 hy;rfl
 ·have h0:=sc 0 (by simp at hp;omega)
  unfold World.cell? at h0
  split at h0
  ·split at h0
   ·cases h0
   ·rename_i hs
    have:(x.add 0).spot=x.spot:=rfl
    rw[this]at hs
    cases hx:x.spot with
    |none=>rfl
    |some s=>simp[hx]at hs
  ·cases h0
 ·have h0:=sc 0 (by simp at hp;omega)
  unfold World.cell? at h0
  split at h0
  ·rename_i h1
   exact(bd.1 h1).1
  ·cases h0
 ·obtain⟨h1,rfl⟩:=fy i y hy
  cases j with
  |zero=>simpa using sc i h1
  |succ j=>simp at hc
 ·obtain⟨h1,rfl⟩:=fy i y hy
  cases j with
  |zero=>simp at hc;subst hc;exact .int _ _
  |succ j=>simp at hc
theorem pA{α β:Type}{R:α→β→Prop}{a:α}{b:β}{l:List α}{r:List β}(h:R a b)(k:Pw R l r):Pw R (a::l) (b::r):=
 ⟨by simp[k.1],fun j c hc=>by
  cases j with
  |zero=>simp at hc;subst hc;exact⟨a,rfl,h⟩
  |succ j=>exact k.2 j c (by simpa using hc)⟩
theorem J8{α β:Type}{R:α→β→Prop}:Pw R ([]:List α) ([]:List β):=⟨rfl,fun j c hc=>by simp at hc⟩
end Go.Sy
