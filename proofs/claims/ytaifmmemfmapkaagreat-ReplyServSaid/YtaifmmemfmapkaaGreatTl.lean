import Derived.Test.YtaifmmemfmapkaaGreatTk
import Derived.Test.YtaifmmemfmapkaaGreatSi
namespace Go.Abs.R
open Go.Abs Go.Proofs
set_option maxRecDepth 100000
set_option linter.unusedVariables false
set_option linter.unusedSimpArgs false
attribute [local irreducible] refV lkV sm17
theorem dsOk_lC (l : List Lk) (h : ∀ x ∈ l, dsOk x.ds = true) : (l.map lC).all isLk = true := by
  rw [List.all_map]; exact List.all_eq_true.2 fun x hx => h x hx
theorem lksOk_V {l : List Lk} (h : ∀ x ∈ l, dsOk x.ds = true) (hl : l.length ≤ 9223372036854775807) : lksOk (lkV l) = true := by
  unfold lkV
  cases l with
  | nil => rfl
  | cons a t =>
    show ((List.map lC (a :: t)).all isLk && decide ((List.map lC (a :: t)).length ≤ 9223372036854775807)) = true
    rw [dsOk_lC _ h, List.length_map, decide_eq_true hl]; rfl
theorem lksOf_ok {a : AV} (h : lksOk a = true) : (∀ x ∈ lksOf a, dsOk x.ds = true) ∧ (lksOf a).length ≤ 9223372036854775807 := by
  rcases lks_cs h with ⟨b, _, e⟩ | ⟨l, _, e, hl, hd⟩
  · rw [e]; exact ⟨(fun x hx => nomatch hx), by simp⟩
  · rw [e]; exact ⟨hd, hl⟩
def T30 : Tbl := [(19, g19)]
/-- reply.Build, of a chain whose end is not known -/
def g14 : List AV → Option (Bool × AV)
  | [.agg [.int .i64 id, .int .i64 b, .str nm, .int .i64 k, .int .i64 c, .bool has, .int .i64 s, .int .i64 e, .int .i64 ve, .bool d], .agg [lk, .int .i64 kd, .str zn, .str nm2, .int .i64 k2, .int .i64 c2, ds, .int .i64 x, .int .i64 y], .int .i64 lim] =>
    some (lksOk lk && dsOk ds && decide (kd < 0 ∨ 2 < kd) && decide (nm.length ≤ 1099511627776), .str (refV id b nm k c has d))
  | _ => none
theorem s14 : Spec (EY T30) Tryz.f14 g14 := by
  intro args v hg
  unfold g14 at hg
  split at hg
  · rename_i id b nm k c has s e ve d lk kd zn nm2 k2 c2 ds x y lim
    simp only [Option.some.injEq, Prod.mk.injEq, true_and, decide_eq_true_eq, Bool.and_eq_true] at hg
    obtain ⟨⟨⟨⟨hk, hd⟩, hkd⟩, hl⟩, rfl⟩ := hg
    have sd := solid_ds hd
    have sk := solid_lks hk
    refine ⟨⟨solidB_ok _ rfl, ⟨sk, trivial, trivial, trivial, trivial, trivial, sd, trivial, trivial, trivial⟩, trivial, trivial⟩, ?_⟩
    (conv => whnf)
    refine tst (fun h1 => ?_) (fun h1 => ?_)
    · (conv => whnf)
      refine obl (decide_eq_true hl) ?_
      (conv => whnf)
    · have h1' : ¬ kd < 0 := by simpa using h1
      (conv => whnf)
      refine tst (fun h2 => ?_) (fun h2 => ?_)
      · (conv => whnf)
        refine obl (decide_eq_true hl) ?_
        (conv => whnf)
      · exfalso
        have h2a : decide (2 < kd) = false := h2
        simp only [decide_eq_false_iff_not] at h2a
        omega
  · cases hg
def T31 : Tbl := [(12, g12), (15, g15), (16, g16), (14, g14), (19, g19), (9, g9)]
set_option maxHeartbeats 8000000 in
theorem law6 (id b k c s e ve kd k2 c2 x y lim : Int) (nm zn nm2 : Bs) (has d : Bool) (lk ds : AV) (hk : lksOk lk = true) (hd : dsOk ds = true) :
    awqFn (EY T31) (inl (EY T31) 9) Tryz.f6 [.agg [.int .i64 id, .int .i64 b, .str nm, .int .i64 k, .int .i64 c, .bool has, .int .i64 s, .int .i64 e, .int .i64 ve, .bool d], .agg [lk, .int .i64 kd, .str zn, .str nm2, .int .i64 k2, .int .i64 c2, ds, .int .i64 x, .int .i64 y], .int .i64 lim] [] fun v h => v = .bool true := by
  (conv => whnf)
  refine obl (by rw [hk, hd]; rfl) ?_
  (conv => whnf)
  refine tst (fun h1 => ?_) (fun h1 => ?_)
  · (conv => whnf)
    rfl
  have h1' : sm17 (lksOf lk) ⟨nm2, k2, c2, ds, x, y⟩ = true := by
    have h1a : (!sm17 (lksOf lk) ⟨nm2, k2, c2, ds, x, y⟩) = false := h1
    simpa using h1a
  have hlk : (lksOf lk).length ≤ 12 := by
    unfold sm17 at h1'
    simp only [Bool.and_eq_true, decide_eq_true_eq] at h1'
    exact h1'.1.2
  (conv => whnf)
  refine tst (fun h2 => ?_) (fun h2 => ?_)
  · (conv => whnf)
    rfl
  have hlv : lksOk (lkV (lksOf lk)) = true := lksOk_V (lksOf_ok hk).1 (lksOf_ok hk).2
  have hnm : nm.length ≤ 300 := by
    have h2a : decide (300 < (nm.length : Int)) = false := h2
    simp only [decide_eq_false_iff_not] at h2a; omega
  (conv => whnf)
  refine tst (fun h3 => ?_) (fun h3 => ?_)
  · have h3' : 0 ≤ kd := by
      have h3a : decide (kd ≥ 0) = true := h3
      simpa using h3a
    (conv => whnf)
    refine tst (fun h4 => ?_) (fun h4 => ?_)
    · (conv => whnf)
      rfl
    · have h4' : 2 < kd := by
        have h4a : decide (kd ≤ 2) = false := h4
        simp only [decide_eq_false_iff_not] at h4a; omega
      (conv => whnf)
      have hor : kd < 0 ∨ 2 < kd := .inr h4'
      refine obl (by rw [hk, hd, decide_eq_true (by omega)]; rfl) ?_
      (conv => whnf)
      refine obl (by rw [hlv, hd, decide_eq_true hor, decide_eq_true (by omega)]; rfl) ?_
      (conv => whnf)
      refine obl (decide_eq_true (by omega)) ?_
      (conv => whnf)
      refine tst (fun h5 => ?_) (fun h5 => absurd (h5 : (refV id b nm k c has d == refV id b nm k c has d) = false) (by simp))
      (conv => whnf)
      rfl
  · have h3' : kd < 0 := by
      have h3a : decide (kd ≥ 0) = false := h3
      simp only [decide_eq_false_iff_not] at h3a; omega
    (conv => whnf)
    have hor : kd < 0 ∨ 2 < kd := .inl h3'
    refine obl (by rw [hk, hd, decide_eq_true (by omega)]; rfl) ?_
    (conv => whnf)
    refine obl (by rw [hlv, hd, decide_eq_true hor, decide_eq_true (by omega)]; rfl) ?_
    (conv => whnf)
    refine obl (decide_eq_true (by omega)) ?_
    (conv => whnf)
    refine tst (fun h5 => ?_) (fun h5 => absurd (h5 : (refV id b nm k c has d == refV id b nm k c has d) = false) (by simp))
    (conv => whnf)
    rfl
end Go.Abs.R
