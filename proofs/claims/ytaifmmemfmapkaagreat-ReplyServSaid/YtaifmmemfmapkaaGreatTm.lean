/-
  What the inputs of ReplyServ are, opened.
-/
import Derived.Test.YtaifmmemfmapkaaGreatTl
import Derived.Test.YtaifmmemfmapkaaGreatOpen
import Derived.Test.YtaifmmemfmapkaaGreatRows
namespace Go.Abs.R
open Go.Abs Go.Proofs Go.RowKit Go.ChangeShapes Go.WideShapes
theorem okW_struct {P : Program} {w : World} {r : Reach} {base : Nat} {t : TypeId} {v : Value} {fs : Array Field} (ht : P.underlying t = some (.struct fs)) (h : Value.okWide P w r base t v) : ∃ cs, v = .agg cs := by
  simp only [Value.okWide, ht] at h
  cases v <;> simp_all
section
variable {H : Type} {enc : TypeId × Value → H} {w : World}
theorem o3 : Opens enc Tryz.prog w 3 1 (QI .i64) := opens_int Tryz.underlying3
theorem o4 : Opens enc Tryz.prog w 4 1 QB := opens_bool Tryz.underlying4
theorem o9 : Opens enc Tryz.prog w 9 1 QS := opens_str Tryz.underlying9
theorem o32 : Opens enc Tryz.prog w 32 3 (QCat [QS, QI .i64, QI .i64]) :=
  opens_struct Tryz.underlying32 (by kernel_rfl) (.cons rfl (by kernel_rfl) o9 (.cons rfl (by kernel_rfl) o3 (.cons rfl (by kernel_rfl) o3 (.nil _))))
theorem o41 : Opens enc Tryz.prog w 41 5 (QCat [QB, QI .i64, QI .i64, QI .i64, QB]) :=
  opens_struct Tryz.underlying41 (by kernel_rfl) (.cons rfl (by kernel_rfl) o4 (.cons rfl (by kernel_rfl) o3 (.cons rfl (by kernel_rfl) o3 (.cons rfl (by kernel_rfl) o3 (.cons rfl (by kernel_rfl) o4 (.nil _))))))
theorem o43 : Opens enc Tryz.prog w 43 10 (QCat [QI .i64, QI .i64, QCat [QS, QI .i64, QI .i64], QCat [QB, QI .i64, QI .i64, QI .i64, QB]]) :=
  opens_struct Tryz.underlying43 (by kernel_rfl) (.cons rfl (by kernel_rfl) o3 (.cons rfl (by kernel_rfl) o3 (.cons rfl (by kernel_rfl) o32 (.cons rfl (by kernel_rfl) o41 (.nil _)))))
theorem o45 : Opens enc Tryz.prog w 45 1 (QSl 1 QS) := opens_sl Tryz.underlying45 (by kernel_rfl) o9
theorem o47 : Opens enc Tryz.prog w 47 5 (QCat [QCat [QS, QI .i64, QI .i64], QSl 1 QS, QI .i64]) :=
  opens_struct Tryz.underlying47 (by kernel_rfl) (.cons rfl (by kernel_rfl) o32 (.cons rfl (by kernel_rfl) o45 (.cons rfl (by kernel_rfl) o3 (.nil _))))
theorem o49 : Opens enc Tryz.prog w 49 6 (QCat [QCat [QCat [QS, QI .i64, QI .i64], QSl 1 QS, QI .i64], QI .i64]) :=
  opens_struct Tryz.underlying49 (by kernel_rfl) (.cons rfl (by kernel_rfl) o47 (.cons rfl (by kernel_rfl) o3 (.nil _)))
theorem o44 : Opens enc Tryz.prog w 44 1 (QSl 6 (QCat [QCat [QCat [QS, QI .i64, QI .i64], QSl 1 QS, QI .i64], QI .i64])) := opens_sl Tryz.underlying44 (by kernel_rfl) o49
theorem o51 : Opens enc Tryz.prog w 51 9 (QCat [QSl 6 (QCat [QCat [QCat [QS, QI .i64, QI .i64], QSl 1 QS, QI .i64], QI .i64]), QI .i64, QS, QCat [QCat [QCat [QS, QI .i64, QI .i64], QSl 1 QS, QI .i64], QI .i64]]) :=
  opens_struct Tryz.underlying51 (by kernel_rfl) (.cons rfl (by kernel_rfl) o44 (.cons rfl (by kernel_rfl) o3 (.cons rfl (by kernel_rfl) o9 (.cons rfl (by kernel_rfl) o49 (.nil _)))))
end
theorem qds {a : List AV} (h : QSl 1 QS a) : ∃ v, a = [v] ∧ dsOk v = true := by
  obtain ⟨v, rfl, ⟨b, rfl⟩ | ⟨xs, rfl, hl, hx⟩⟩ := h
  · exact ⟨_, rfl, rfl⟩
  · refine ⟨_, rfl, ?_⟩
    show (xs.all isS && decide (xs.length ≤ 9223372036854775807)) = true
    rw [decide_eq_true (show xs.length ≤ 9223372036854775807 from hl), Bool.and_true]
    refine List.all_eq_true.2 fun x hm => ?_
    obtain ⟨s, rfl⟩ := hx x hm
    rfl
theorem q49 {a : List AV} (h : QCat [QCat [QCat [QS, QI .i64, QI .i64], QSl 1 QS, QI .i64], QI .i64] a) : ∃ nm k c ds x y, a = [.str nm, .int .i64 k, .int .i64 c, ds, .int .i64 x, .int .i64 y] ∧ dsOk ds = true := by
  obtain ⟨_, _, rfl, ⟨_, _, rfl, ⟨_, _, rfl, ⟨nm, rfl⟩, _, _, rfl, ⟨k, rfl⟩, _, _, rfl, ⟨c, rfl⟩, rfl⟩, _, _, rfl, hd, _, _, rfl, ⟨x, rfl⟩, rfl⟩, _, _, rfl, ⟨y, rfl⟩, rfl⟩ := h
  obtain ⟨ds, rfl, hd2⟩ := qds hd
  exact ⟨nm, k, c, ds, x, y, rfl, hd2⟩
theorem q44 {a : List AV} (h : QSl 6 (QCat [QCat [QCat [QS, QI .i64, QI .i64], QSl 1 QS, QI .i64], QI .i64]) a) : ∃ v, a = [v] ∧ lksOk v = true := by
  obtain ⟨v, rfl, ⟨b, rfl⟩ | ⟨xs, rfl, hl, hx⟩⟩ := h
  · exact ⟨_, rfl, rfl⟩
  · refine ⟨_, rfl, ?_⟩
    show (xs.all isLk && decide (xs.length ≤ 9223372036854775807)) = true
    rw [decide_eq_true (show xs.length ≤ 9223372036854775807 from hl), Bool.and_true]
    refine List.all_eq_true.2 fun x hm => ?_
    obtain ⟨nm, k, c, ds, x, y, rfl, hd⟩ := q49 (hx x hm)
    exact hd
theorem q51 {a : List AV} (h : QCat [QSl 6 (QCat [QCat [QCat [QS, QI .i64, QI .i64], QSl 1 QS, QI .i64], QI .i64]), QI .i64, QS, QCat [QCat [QCat [QS, QI .i64, QI .i64], QSl 1 QS, QI .i64], QI .i64]] a) :
    ∃ lk kd zn nm k c ds x y, a = [lk, .int .i64 kd, .str zn, .str nm, .int .i64 k, .int .i64 c, ds, .int .i64 x, .int .i64 y] ∧ lksOk lk = true ∧ dsOk ds = true := by
  obtain ⟨_, _, rfl, h1, _, _, rfl, ⟨kd, rfl⟩, _, _, rfl, ⟨zn, rfl⟩, _, _, rfl, h2, rfl⟩ := h
  obtain ⟨lk, rfl, hk⟩ := q44 h1
  obtain ⟨nm, k, c, ds, x, y, rfl, hd⟩ := q49 h2
  exact ⟨lk, kd, zn, nm, k, c, ds, x, y, rfl, hk, hd⟩
theorem q43 {a : List AV} (h : QCat [QI .i64, QI .i64, QCat [QS, QI .i64, QI .i64], QCat [QB, QI .i64, QI .i64, QI .i64, QB]] a) :
    ∃ id b nm k c has s e ve d, a = [.int .i64 id, .int .i64 b, .str nm, .int .i64 k, .int .i64 c, .bool has, .int .i64 s, .int .i64 e, .int .i64 ve, .bool d] := by
  obtain ⟨_, _, rfl, ⟨id, rfl⟩, _, _, rfl, ⟨b, rfl⟩, _, _, rfl, ⟨_, _, rfl, ⟨nm, rfl⟩, _, _, rfl, ⟨k, rfl⟩, _, _, rfl, ⟨c, rfl⟩, rfl⟩, _, _, rfl, ⟨_, _, rfl, ⟨has, rfl⟩, _, _, rfl, ⟨s, rfl⟩, _, _, rfl, ⟨e, rfl⟩, _, _, rfl, ⟨ve, rfl⟩, _, _, rfl, ⟨d, rfl⟩, rfl⟩, rfl⟩ := h
  exact ⟨id, b, nm, k, c, has, s, e, ve, d, rfl⟩
end Go.Abs.R
