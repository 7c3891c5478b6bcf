import Derived.Test.YtaifmmemfmapkaaGreatTa
namespace Go.Abs.R
open Go.Abs Go.Proofs
set_option maxRecDepth 100000
set_option linter.unusedVariables false
set_option linter.unusedSimpArgs false
def T18 : Tbl := [(125, g125), (78, g78), (130, g102), (107, g107)]
/-- data.Check -/
def g126 : List AV → Option (Bool × AV)
  | [.int .i64 k, .str d] => some (decide (d.length ≤ 1099511627776), .bool (dataB k d))
  | _ => none
theorem s126 : Spec (EY T18) Tryz.f126 g126 := by
  intro args v hg
  unfold g126 at hg
  split at hg
  · rename_i k d
    simp only [Option.some.injEq, Prod.mk.injEq, true_and, decide_eq_true_eq, Bool.and_eq_true] at hg
    obtain ⟨hd, rfl⟩ := hg
    refine ⟨(by simp [Solids, Solid, Solidss]), ?_⟩
    unfold dataB
    (conv => whnf)
    refine tst (fun h1 => ?_) (fun h1 => ?_)
    · have hl : ¬ d.length ≤ 65535 := by simp only [decide_eq_true_eq] at h1; omega
      (conv => whnf)
      simp [hl]
    have hl : d.length ≤ 65535 := by simp only [decide_eq_false_iff_not] at h1; omega
    (conv => whnf)
    refine obl (decide_eq_true hd) ?_
    generalize expV d 0 d.length k = r
    obtain ⟨x, e⟩ := r
    (conv => whnf)
    refine tst (fun h2 => ?_) (fun h2 => ?_)
    · (conv => whnf)
      have : (e == 0) = true := h2
      simp only [this, hl, decide_true, Bool.true_and]
      rfl
    · (conv => whnf)
      have : (e == 0) = false := h2
      simp only [this, Bool.false_and, Bool.and_false]
  · cases hg
def T18b : Tbl := [(126, g126), (78, g78), (130, g102), (107, g107)]
/-- record.Check -/
def g109 : List AV → Option (Bool × AV)
  | [.agg [.str nm, .int .i64 k, .int .i64 c, .int .i64 t, .str d]] => some (decide (d.length ≤ 1099511627776), .bool (rrB ⟨nm, k, c, t, d⟩))
  | _ => none
theorem s109 : Spec (EY T18b) Tryz.f109 g109 := by
  intro args v hg
  unfold g109 at hg
  split at hg
  · rename_i nm k c t d
    simp only [Option.some.injEq, Prod.mk.injEq, true_and, decide_eq_true_eq, Bool.and_eq_true] at hg
    obtain ⟨hd, rfl⟩ := hg
    refine ⟨(by simp [Solids, Solid, Solidss]), ?_⟩
    unfold rrB
    simp only
    (conv => whnf)
    refine tst (fun h1 => ?_) (fun h1 => ?_)
    · (conv => whnf)
      refine tst (fun h2 => ?_) (fun h2 => ?_)
      · (conv => whnf)
        refine tst (fun h3 => ?_) (fun h3 => ?_)
        · (conv => whnf)
          refine tst (fun h4 => ?_) (fun h4 => ?_)
          · (conv => whnf)
            refine obl (decide_eq_true hd) ?_
            (conv => whnf)
            simp_all [inV] <;> (intros; omega)
          · (conv => whnf)
            simp_all [inV] <;> (intros; omega)
        · (conv => whnf)
          simp_all [inV] <;> (intros; omega)
      · (conv => whnf)
        simp_all [inV] <;> (intros; omega)
    · (conv => whnf)
      simp_all [inV] <;> (intros; omega)
  · cases hg
def T18c : Tbl := [(109, g109), (78, g78), (107, g107)]
def g108 : List AV → Option (Bool × AV)
  | [.agg [.str nm, .int .i64 k, .int .i64 c, .int .i64 t, .str d]] => some (decide (d.length ≤ 1099511627776), .bool (!rrB ⟨nm, k, c, t, d⟩))
  | _ => none
theorem s108 : Spec (EY T18c) Tryz.f108 g108 := by
  intro args v hg
  unfold g108 at hg
  split at hg
  · rename_i nm k c t d
    simp only [Option.some.injEq, Prod.mk.injEq, true_and, decide_eq_true_eq, Bool.and_eq_true] at hg
    obtain ⟨hd, rfl⟩ := hg
    refine ⟨(by simp [Solids, Solid, Solidss]), ?_⟩
    (conv => whnf)
    refine obl (decide_eq_true hd) ?_
    (conv => whnf)
  · cases hg
def g110 : List AV → Option (Bool × AV)
  | [.agg [.str nm, .int .i64 k, .int .i64 c]] => some (true, .bool (!qnB ⟨nm, k, c⟩))
  | _ => none
theorem s110 : Spec (EY T18c) Tryz.f110 g110 := by
  intro args v hg
  unfold g110 at hg
  split at hg
  · rename_i nm k c
    simp only [Option.some.injEq, Prod.mk.injEq, true_and, decide_eq_true_eq, Bool.and_eq_true] at hg
    subst hg
    refine ⟨(by simp [Solids, Solid, Solidss]), ?_⟩
    unfold qnB
    simp only
    (conv => whnf)
    refine tst (fun h1 => ?_) (fun h1 => ?_)
    · (conv => whnf)
      simp_all [inV] <;> (intros; omega)
    · (conv => whnf)
      refine tst (fun h2 => ?_) (fun h2 => ?_)
      · (conv => whnf)
        simp_all [inV] <;> (intros; omega)
      · (conv => whnf)
        simp_all [inV] <;> (intros; omega)
  · cases hg
end Go.Abs.R
