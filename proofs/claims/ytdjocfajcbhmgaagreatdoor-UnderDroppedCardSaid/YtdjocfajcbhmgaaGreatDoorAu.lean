/- The steps that every walk takes, as lemmas that look for their step themselves. -/
import Derived.Test.YtdjocfajcbhmgaaGreatDoorSymT
import Derived.Test.YtdjocfajcbhmgaaGreatDoorSy8
set_option linter.unusedSimpArgs false
set_option linter.unusedVariables false
set_option linter.unusedSectionVars false
namespace Go.Sy
theorem aA{Q P:Prop}(q:Q)(h:Q→P:=by intro q;first|(refine gc_ J ?_;exact q)|(refine mY ?_;refine ao th J ?_;exact q)|(refine O5 mix J J ?_;refine dP th J ?_;exact q)|(refine L0 mix J J ?_;refine o8 th J ?_;exact q)|(refine SOps.nil ?_;exact q)|(refine DOps.nil ?_;exact q)|(refine EOps.nil ?_ rfl rfl;exact q)|fail):P:=h q
theorem aB{Q R P:Prop}(q:Q)(r:R)(h:Q→R→P:=by intro q r;first|(refine Gf J J ?_ ?_;exact q;exact r)|(refine Pp J J J ?_ ?_;exact q;exact r)|(refine U2 J ?_ ?_;exact q;exact r)|fail):P:=h q r
theorem aD{p G:Prop}(h:p→False:=by intro hb;(try simp only[Yq]at hb)<;>omega):p→G:=fun x=>(h x).elim
theorem aE{p Q G:Prop}(q:Q)(h:Q→p→G:=by intro q hb;(try simp only[Yq]at hb);first|(refine ao th J ?_;revert hb;exact q)|(refine dP th J ?_;revert hb;exact q)|(revert hb;exact q)):p→G:=h q
theorem aS{C:Ctx}{f:FuncId}{n:Nat}{R:Ending→World→Prop}{tm tm':TM}{mm mm':MM}{t:List Item}(g:Goes C f n R t tm' mm')
 (h1:I2 tm tm':=by repeat (first|exact trivial|refine⟨⟨_,rfl,.refl _⟩,?_⟩|refine⟨⟨_,rfl,eM (by omega)⟩,?_⟩|refine⟨⟨_,rfl,eM (by simp)⟩,?_⟩|refine⟨⟨_,rfl,eM (by simp;omega)⟩,?_⟩|fail))
 (h2:I3 mm mm':=by repeat (first|exact trivial|refine⟨⟨_,rfl,.refl _⟩,?_⟩|refine⟨⟨_,rfl,fE J⟩,?_⟩|fail))
 (h3:Kt mm' tm'=true:=by rfl)(h4:yj mm' mm'=true:=by rfl)(h5:vF mm'=true:=by rfl):Goes C f n R t tm mm:=GX h1 h2 h3 h4 h5 g
theorem aH{C:Ctx}{n:Nat}{tm tm':TM}{mm mm':MM}
 (h1:I2 tm tm':=by repeat (first|exact trivial|refine⟨⟨_,rfl,.refl _⟩,?_⟩|refine⟨⟨_,rfl,eM (by omega)⟩,?_⟩|refine⟨⟨_,rfl,eM (by simp)⟩,?_⟩|refine⟨⟨_,rfl,eM (by simp;omega)⟩,?_⟩|fail))
 (h2:I3 mm mm':=by repeat (first|exact trivial|refine⟨⟨_,rfl,.refl _⟩,?_⟩|refine⟨⟨_,rfl,fE J⟩,?_⟩|fail))
 (h3:Kt mm' tm'=true:=by rfl)(h4:yj mm' mm'=true:=by rfl)(h5:vF mm'=true:=by rfl):∀a w,Has C n tm mm a w→Has C n tm' mm' a w:=fun _ _ h=>h.sub h1 h2 h3 h4 h5
end Go.Sy
