import Derived.Test.YtaifmmemfmapkaaGreatTyTabP
import Derived.Test.YtaifmmemfmapkaaGreatFnTab
import Derived.Test.YtaifmmemfmapkaaGreatBldC
import Derived.Test.YtaifmmemfmapkaaGreatAbsEc
import Derived.Eval
namespace Go.Abs.R
open Go.Abs Go.Proofs
noncomputable def E0 : Env := ⟨tyTab, fnTab, noP, noR, bldC⟩
def q0 (f : FuncId) : Bool := Nat.beq f 129
noncomputable def E1 : Env := runF E0 q0 2000 30
/-- the answer 'true', alone -/
def saysTrue : Option (Bool × AV) → Bool
  | some (true, .bool true) => true
  | _ => false
theorem saysTrue_eq {x : Option (Bool × AV)} (h : saysTrue x = true) : x = some (true, .bool true) := by
  unfold saysTrue at h
  split at h
  · rfl
  · cases h
theorem live17 : runP E1 2000 0 9 [] = some (true, .bool true) := saysTrue_eq (by decide +kernel)
end Go.Abs.R
