/- From a contract to what a row's frame asks for. -/
import Derived.Test.YtdjocfajcbhmgaaGreatDoorBl1
import Derived.Below
set_option linter.unusedSimpArgs false
set_option linter.unusedVariables false
set_option linter.unusedSectionVars false
namespace Go.Sy
open Go.RowKit
theorem dy.top{P:Program}{f:FuncId}{cts:List CT}(hc:dy P f [] (cts.map C1) (Rv (.bool true)) []){w:World}{vs:List Value}
 (hv:Pw (fun v c=>a7 w (fun _=>False) v c) vs cts):Calls P f vs.toArray w fun e w'=>e=.returned (.bool true)∧Below w.heap.size w w':=by
 have hf:∀(H:Nat→Value) b,¬(False∨bP H (bU given []) b):=by
  rintro H b (h|⟨p,hp,_⟩)
  ·exact h
  ·simp[bU]at hp
 refine(hc.calls w (fun _=>False) (fun _=>.nilFunc) (fun _=>0) vs ⟨fun _ h=>h.elim,fun p hp=>by simp[bU]at hp,fun p hp=>by simp[bU]at hp,fun p hp=>by simp[bU]at hp⟩ ⟨by simpa using hv.1,fun j c On=>?_⟩).mono ?_
 ·rw[aI]at On
  cases hq:cts[j]? with
  |none=>rw[hq]at On;cases On
  |some ct=>
   rw[hq]at On;injection On with On;subst On
   obtain⟨u,hu,hr⟩:=hv.2 j ct hq
   exact⟨u,hu,a7.mono hr (aA _) (fun _ _ _=>rfl) (fun b _ hb=>hf _ b hb)⟩
 ·rintro e w' ⟨v,rfl,ec,_,hr⟩
  have yh:=a7.nS hr
  subst yh
  exact⟨rfl,(ec.xB (Y:=fun _=>False) fun b _ hb=>hf _ b (.inr hb)).below⟩
theorem sY{w:World}{sz:Nat}:a7 w (fun _=>False) (.slice none 0 0) (.slice false sz []):=
 .slice (fun _ _=>undef) J (aA _) (by simp[maxLen]) (fun h=>by cases h) (fun x h=>by cases h) (fun h=>by simp at h) (fun i x h=>by simp at h)
theorem qd{w:World}{x:Addr}{len cap:Nat}{zs:List Int}(hl:len≤cap)(hm:cap≤maxLen)(hz:zs.length=cap)(nJ:∀i,i < zs.length→w.cell? (x.add i)=some (.int .i64 (zs.getD i 0))):
 a7 w (fun _=>False) (.slice (some x) len cap) (cA (zs.take len)):=by
 have jN:∀(i:Nat) (y:List CT),((zs.take len).map fun r=>[CT.int .i64 r])[i]? =some y→i < zs.length∧y=[CT.int .i64 (zs.getD i 0)]:=by
  intro i y hy
  rw[aI,b9]at hy
  split at hy
  ·cases hq:zs[i]? with
   |none=>rw[hq]at hy;cases hy
   |some n=>
    rw[hq]at hy
    injection hy with hy
    exact⟨(ai.1 hq).1,by rw[←hy];simp[hq]⟩
  ·cases hy
 refine .slice (fun i _=>.int .i64 (zs.getD i 0)) (by simp;omega) hl hm (fun h=>by cases h) (fun y hy=>?_) (fun hp=>⟨x,rfl,?_,?_,fun h=>h,fun i y hy j c hc=>?_⟩) (fun i y hy j c hc=>?_)
 ·obtain⟨r,_,rfl⟩:=aE.1 hy;rfl
 ·have h0:=nJ 0 (by simp at hp;omega)
  unfold World.cell? at h0
  split at h0
  ·split at h0
   ·cases h0
   ·rename_i hs
    have:(x.add 0).spot=x.spot:=rfl
    rw[this]at hs
    cases hx:x.spot with
    |none=>rfl
    |some s=>simp[hx]at hs
  ·cases h0
 ·have h0:=nJ 0 (by simp at hp;omega)
  unfold World.cell? at h0
  split at h0
  ·rename_i h1
   exact(bu.1 h1).1
  ·cases h0
 ·obtain⟨h1,rfl⟩:=jN i y hy
  cases j with
  |zero=>simpa using nJ i h1
  |succ j=>simp at hc
 ·obtain⟨h1,rfl⟩:=jN i y hy
  cases j with
  |zero=>simp at hc;subst hc;exact .int _ _
  |succ j=>simp at hc
theorem lj{α β:Type}{R:α→β→Prop}{a:α}{b:β}{l:List α}{r:List β}(h:R a b)(k:Pw R l r):Pw R (a::l) (b::r):=
 ⟨by simp[k.1],fun j c hc=>by
  cases j with
  |zero=>simp at hc;subst hc;exact⟨a,rfl,h⟩
  |succ j=>exact k.2 j c (by simpa using hc)⟩
theorem xO{α β:Type}{R:α→β→Prop}:Pw R ([]:List α) ([]:List β):=⟨rfl,fun j c hc=>by simp at hc⟩
end Go.Sy
