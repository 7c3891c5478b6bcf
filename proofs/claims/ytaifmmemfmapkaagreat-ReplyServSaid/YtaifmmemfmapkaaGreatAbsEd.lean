import Derived.Test.YtaifmmemfmapkaaGreatAbsB
import Derived.Test.YtaifmmemfmapkaaGreatAbsEc
namespace Go.Abs
open Go.RowKit
variable {P : Program}
def AllF (P : Program) (o : Option Func) (f : FuncId) : Prop := ∀ fn, o = some fn → P.funcs[f]? = some fn ∧ fnOk fn = true
theorem fnN {b : Bool} {x y : Option Func} {f : FuncId} (hx : AllF P x f) (hy : AllF P y f) : AllF P (bif b then x else y) f := by cases b <;> assumption
theorem fnL {n : Nat} {fn : Func} {f : FuncId} (h : P.funcs[n]? = some fn) (ok : fnOk fn = true) : AllF P (bif Nat.beq f n then some fn else none) f := by
  intro j hj
  cases hb : Nat.beq f n with
  | false => rw [hb] at hj; cases hj
  | true =>
    rw [hb] at hj
    simp only [cond_true, Option.some.injEq] at hj
    simp only [Nat.beq_eq] at hb
    subst hb; subst hj
    exact ⟨h, ok⟩
theorem envOk_of {E : Env} (ht : ∀ t, AllT P (E.ty t) t) (hf : ∀ f, AllF P (E.fns f) f) (hR : CrOk P E.Cr) (hP : CpOk P E.Cp) (hC : CtrOk P E.C) (hm : P.follows .mixedOrders = true) : EnvOk P E :=
  ⟨hR, hP, tyAll_of ht, eqAll_of ht, hC, fun f fn h => hf f fn h, hm⟩
end Go.Abs
