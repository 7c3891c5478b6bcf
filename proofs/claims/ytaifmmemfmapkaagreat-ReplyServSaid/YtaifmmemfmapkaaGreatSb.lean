import Derived.Test.YtaifmmemfmapkaaGreatSa
import Derived.Lib.MakeNoZero
import Derived.Laws.Externs
import Derived.Shelf.RegionOpenPlain
import Derived.WalkKit
import Derived.Lib.Walk
import Derived.Lib.Slices
import Derived.Lib.Builder
set_option linter.unusedVariables false
namespace Go.Abs.R
open Go.Proofs Go.RowKit Go.Abs
set_option maxHeartbeats 2000000 in
set_option maxRecDepth 1000000 in
theorem grow_fresh (b n : Nat) (w : World) (c1 : w.cell? ⟨b, 1, none⟩ = some (.slice none 0 0)) (hfz : w.frozen? ⟨b, 1, none⟩ = false) (hlt : b < w.heap.size) (hn : n ≤ 281474976710656) :
    Calls Tryz.prog 156 #[.pointer (some ⟨b, 0, none⟩), .int .i64 n] w fun e w' => e = .returned (.tuple #[]) ∧ ∃ cs : Array Value, n ≤ cs.size ∧ w' = ((w.setCell ⟨b, 1, none⟩ (.slice (some ⟨w.heap.size, 0, none⟩) 0 cs.size)).alloc (.cells cs 5)).drew.drew.drew := by
  obtain ⟨cs, hrun, hle, hmax⟩ := Lib.run_makeNoZero (P := Tryz.prog) w.drew #[3] 117 5 Tryz.underlying117 n hn
  have hw : IntKind.i64.wrap (IntKind.i64.wrap 0 + (n : Int)) = n := by
    rw [IntKind.wrap_i64, IntKind.wrap_i64]
    omega
  have hcall : (callFunc 157 #[.int .i64 (IntKind.i64.wrap (IntKind.i64.wrap 0 + (n : Int)))]).run Tryz.prog w.drew = .ok (.value (.slice (some ⟨w.drew.heap.size, 0, none⟩) n cs.size)) (w.drew.drew.drew.alloc (.cells cs 5)) := by
    rw [hw, run_callFunc_extern Tryz.func157 (by kernel_rfl) (by kernel_rfl) (by kernel_rfl) (e := Extern.BytealgMakeNoZero.makeNoZero #[3] #[117]) (by kernel_rfl), hrun]
    rfl
  have c1' : w.drew.cell? ⟨b, 1, none⟩ = some (.slice none 0 0) := c1
  have same : (w.alloc (.cells cs 5)).heap[b]? = w.heap[b]? := by
    show (w.heap.push _)[b]? = _
    rw [Array.getElem?_push, if_neg (by omega)]
  have c2 : (w.alloc (.cells cs 5)).cell? ⟨b, 1, none⟩ = some (.slice none 0 0) := (World.cell?_of_block (w := w) same).trans c1
  have f2 : (w.alloc (.cells cs 5)).frozen? ⟨b, 1, none⟩ = false := (World.frozen?_of_block (w := w) same).trans hfz
  have hcopy : ∀ W : World, (Builtin.copy_ #[117, 117] 3 #[.slice (some ⟨w.heap.size, 0, none⟩) 0 cs.size, .slice none 0 0]).run Tryz.prog W = .ok (goInt 0) W :=
    fun W => run_copy_none W 117 117 3 5 _ _ 0 cs.size 0 0 Tryz.underlying117 (by kernel_rfl) rfl
  clear hw
  have mixed : Tryz.prog.follows .mixedOrders = true := by decide +kernel
  go_enter Tryz.func156, Tryz.ntmps156
  go_wp2
  go_region
  all_goals (go_wp2; go_end0; exact ⟨rfl, cs, hle, rfl⟩)
end Go.Abs.R
