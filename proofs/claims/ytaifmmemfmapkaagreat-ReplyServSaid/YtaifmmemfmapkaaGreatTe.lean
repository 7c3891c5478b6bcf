import Derived.Test.YtaifmmemfmapkaaGreatTd
namespace Go.Abs.R
open Go.Abs Go.Proofs
set_option maxRecDepth 100000
set_option linter.unusedVariables false
set_option linter.unusedSimpArgs false
def maskV (n : Int) : Int := IntKind.i64.wrap (IntKind.i64.wrap (1 * 2 ^ (min n.toNat IntKind.i64.bits)) - 1)
def andI (x y : Int) : Int := IntKind.i64.wrap ((BitVec.ofInt IntKind.i64.bits x &&& BitVec.ofInt IntKind.i64.bits y).toNat)
def orI (x y : Int) : Int := IntKind.i64.wrap ((BitVec.ofInt IntKind.i64.bits x ||| BitVec.ofInt IntKind.i64.bits y).toNat)
def andnI (x y : Int) : Int := IntKind.i64.wrap ((BitVec.ofInt IntKind.i64.bits x &&& ~~~ BitVec.ofInt IntKind.i64.bits y).toNat)
def shlI (x y : Int) : Int := IntKind.i64.wrap (x * 2 ^ (min y.toNat IntKind.i64.bits))
def shrI (x y : Int) : Int := x.fdiv (2 ^ (min y.toNat IntKind.i64.bits))
/-- flag.places -/
def plV : Int → Int × Int
  | 0 => (15, 1) | 1 => (11, 4) | 4 => (8, 1) | 5 => (7, 1) | 7 => (4, 1) | 8 => (0, 4) | _ => (0, 0)
def wiV (f b v : Int) : Int × Bool := if mayV f b = true then (if v < 0 ∨ maskV (plV f).2 < v then (0, false) else (orI (andnI b (shlI (maskV (plV f).2) (plV f).1)) (shlI v (plV f).1), true)) else (0, false)
def oiV (f b : Int) : Int := if mayV f b = true then andI (shrI b (plV f).1) (maskV (plV f).2) else 0
def layV (f b v : Int) : Int := (wiV f b v).1
def T22 : Tbl := [(61, g61), (63, g63)]
/-- flag.With -/
def g39 : List AV → Option (Bool × AV)
  | [.int .i64 0, .int .i64 b, .int .i64 v] => some (true, .tup [.int .i64 (wiV 0 b v).1, .bool (wiV 0 b v).2])
  | [.int .i64 1, .int .i64 b, .int .i64 v] => some (true, .tup [.int .i64 (wiV 1 b v).1, .bool (wiV 1 b v).2])
  | [.int .i64 4, .int .i64 b, .int .i64 v] => some (true, .tup [.int .i64 (wiV 4 b v).1, .bool (wiV 4 b v).2])
  | [.int .i64 5, .int .i64 b, .int .i64 v] => some (true, .tup [.int .i64 (wiV 5 b v).1, .bool (wiV 5 b v).2])
  | [.int .i64 7, .int .i64 b, .int .i64 v] => some (true, .tup [.int .i64 (wiV 7 b v).1, .bool (wiV 7 b v).2])
  | [.int .i64 8, .int .i64 b, .int .i64 v] => some (true, .tup [.int .i64 (wiV 8 b v).1, .bool (wiV 8 b v).2])
  | _ => none
theorem s39 : Spec (EY T22) Tryz.f39 g39 := by
  intro args v hg
  unfold g39 at hg
  split at hg
  · rename_i b v
    simp only [Option.some.injEq, Prod.mk.injEq, true_and, decide_eq_true_eq, Bool.and_eq_true] at hg
    subst hg
    refine ⟨(by simp [Solids, Solid, Solidss]), ?_⟩
    have hw : wiV 0 b v = if mayV 0 b = true then (if v < 0 ∨ maskV 1 < v then (0, false) else (orI (andnI b (shlI (maskV 1) 15)) (shlI v 15), true)) else (0, false) := rfl
    generalize wiV 0 b v = r at *
    (conv => whnf)
    refine tst (fun h1 => ?_) (fun h1 => ?_)
    · have h1' : ¬ mayV 0 b = true := by
        have h1a : (!mayV 0 b) = true := h1
        simpa using h1a
      rw [if_neg h1'] at hw
      subst hw
      (conv => whnf)
      (refine ⟨_, _, rfl, ?_, ⟨_, _, rfl, ?_, rfl⟩⟩) <;> (conv => whnf)
      all_goals exact ⟨rfl, rfl⟩
    have h1' : mayV 0 b = true := by
      have h1a : (!mayV 0 b) = false := h1
      simpa using h1a
    rw [if_pos h1'] at hw
    (conv => whnf)
    refine tst (fun h2 => ?_) (fun h2 => ?_)
    · have h2' : v < 0 := by simpa using h2
      rw [if_pos (.inl h2')] at hw
      subst hw
      (conv => whnf)
      (refine ⟨_, _, rfl, ?_, ⟨_, _, rfl, ?_, rfl⟩⟩) <;> (conv => whnf)
      all_goals exact ⟨rfl, rfl⟩
    have h2' : ¬ v < 0 := by simpa using h2
    (conv => whnf)
    refine tst (fun h3 => ?_) (fun h3 => ?_)
    · have h3' : maskV 1 < v := by
        have h3a : decide (maskV 1 < v) = true := h3
        simpa using h3a
      rw [if_pos (.inr h3')] at hw
      subst hw
      (conv => whnf)
      (refine ⟨_, _, rfl, ?_, ⟨_, _, rfl, ?_, rfl⟩⟩) <;> (conv => whnf)
      all_goals exact ⟨rfl, rfl⟩
    have h3' : ¬ maskV 1 < v := by
      have h3a : decide (maskV 1 < v) = false := h3
      simpa using h3a
    rw [if_neg (by simp only [not_or]; exact ⟨h2', h3'⟩)] at hw
    subst hw
    (conv => whnf)
    (refine ⟨_, _, rfl, ?_, ⟨_, _, rfl, ?_, rfl⟩⟩) <;> (conv => whnf)
    all_goals exact ⟨rfl, rfl⟩
  · rename_i b v
    simp only [Option.some.injEq, Prod.mk.injEq, true_and, decide_eq_true_eq, Bool.and_eq_true] at hg
    subst hg
    refine ⟨(by simp [Solids, Solid, Solidss]), ?_⟩
    have hw : wiV 1 b v = if mayV 1 b = true then (if v < 0 ∨ maskV 4 < v then (0, false) else (orI (andnI b (shlI (maskV 4) 11)) (shlI v 11), true)) else (0, false) := rfl
    generalize wiV 1 b v = r at *
    (conv => whnf)
    refine tst (fun h1 => ?_) (fun h1 => ?_)
    · have h1' : ¬ mayV 1 b = true := by
        have h1a : (!mayV 1 b) = true := h1
        simpa using h1a
      rw [if_neg h1'] at hw
      subst hw
      (conv => whnf)
      (refine ⟨_, _, rfl, ?_, ⟨_, _, rfl, ?_, rfl⟩⟩) <;> (conv => whnf)
      all_goals exact ⟨rfl, rfl⟩
    have h1' : mayV 1 b = true := by
      have h1a : (!mayV 1 b) = false := h1
      simpa using h1a
    rw [if_pos h1'] at hw
    (conv => whnf)
    refine tst (fun h2 => ?_) (fun h2 => ?_)
    · have h2' : v < 0 := by simpa using h2
      rw [if_pos (.inl h2')] at hw
      subst hw
      (conv => whnf)
      (refine ⟨_, _, rfl, ?_, ⟨_, _, rfl, ?_, rfl⟩⟩) <;> (conv => whnf)
      all_goals exact ⟨rfl, rfl⟩
    have h2' : ¬ v < 0 := by simpa using h2
    (conv => whnf)
    refine tst (fun h3 => ?_) (fun h3 => ?_)
    · have h3' : maskV 4 < v := by
        have h3a : decide (maskV 4 < v) = true := h3
        simpa using h3a
      rw [if_pos (.inr h3')] at hw
      subst hw
      (conv => whnf)
      (refine ⟨_, _, rfl, ?_, ⟨_, _, rfl, ?_, rfl⟩⟩) <;> (conv => whnf)
      all_goals exact ⟨rfl, rfl⟩
    have h3' : ¬ maskV 4 < v := by
      have h3a : decide (maskV 4 < v) = false := h3
      simpa using h3a
    rw [if_neg (by simp only [not_or]; exact ⟨h2', h3'⟩)] at hw
    subst hw
    (conv => whnf)
    (refine ⟨_, _, rfl, ?_, ⟨_, _, rfl, ?_, rfl⟩⟩) <;> (conv => whnf)
    all_goals exact ⟨rfl, rfl⟩
  · rename_i b v
    simp only [Option.some.injEq, Prod.mk.injEq, true_and, decide_eq_true_eq, Bool.and_eq_true] at hg
    subst hg
    refine ⟨(by simp [Solids, Solid, Solidss]), ?_⟩
    have hw : wiV 4 b v = if mayV 4 b = true then (if v < 0 ∨ maskV 1 < v then (0, false) else (orI (andnI b (shlI (maskV 1) 8)) (shlI v 8), true)) else (0, false) := rfl
    generalize wiV 4 b v = r at *
    (conv => whnf)
    refine tst (fun h1 => ?_) (fun h1 => ?_)
    · have h1' : ¬ mayV 4 b = true := by
        have h1a : (!mayV 4 b) = true := h1
        simpa using h1a
      rw [if_neg h1'] at hw
      subst hw
      (conv => whnf)
      (refine ⟨_, _, rfl, ?_, ⟨_, _, rfl, ?_, rfl⟩⟩) <;> (conv => whnf)
      all_goals exact ⟨rfl, rfl⟩
    have h1' : mayV 4 b = true := by
      have h1a : (!mayV 4 b) = false := h1
      simpa using h1a
    rw [if_pos h1'] at hw
    (conv => whnf)
    refine tst (fun h2 => ?_) (fun h2 => ?_)
    · have h2' : v < 0 := by simpa using h2
      rw [if_pos (.inl h2')] at hw
      subst hw
      (conv => whnf)
      (refine ⟨_, _, rfl, ?_, ⟨_, _, rfl, ?_, rfl⟩⟩) <;> (conv => whnf)
      all_goals exact ⟨rfl, rfl⟩
    have h2' : ¬ v < 0 := by simpa using h2
    (conv => whnf)
    refine tst (fun h3 => ?_) (fun h3 => ?_)
    · have h3' : maskV 1 < v := by
        have h3a : decide (maskV 1 < v) = true := h3
        simpa using h3a
      rw [if_pos (.inr h3')] at hw
      subst hw
      (conv => whnf)
      (refine ⟨_, _, rfl, ?_, ⟨_, _, rfl, ?_, rfl⟩⟩) <;> (conv => whnf)
      all_goals exact ⟨rfl, rfl⟩
    have h3' : ¬ maskV 1 < v := by
      have h3a : decide (maskV 1 < v) = false := h3
      simpa using h3a
    rw [if_neg (by simp only [not_or]; exact ⟨h2', h3'⟩)] at hw
    subst hw
    (conv => whnf)
    (refine ⟨_, _, rfl, ?_, ⟨_, _, rfl, ?_, rfl⟩⟩) <;> (conv => whnf)
    all_goals exact ⟨rfl, rfl⟩
  · rename_i b v
    simp only [Option.some.injEq, Prod.mk.injEq, true_and, decide_eq_true_eq, Bool.and_eq_true] at hg
    subst hg
    refine ⟨(by simp [Solids, Solid, Solidss]), ?_⟩
    have hw : wiV 5 b v = if mayV 5 b = true then (if v < 0 ∨ maskV 1 < v then (0, false) else (orI (andnI b (shlI (maskV 1) 7)) (shlI v 7), true)) else (0, false) := rfl
    generalize wiV 5 b v = r at *
    (conv => whnf)
    refine tst (fun h1 => ?_) (fun h1 => ?_)
    · have h1' : ¬ mayV 5 b = true := by
        have h1a : (!mayV 5 b) = true := h1
        simpa using h1a
      rw [if_neg h1'] at hw
      subst hw
      (conv => whnf)
      (refine ⟨_, _, rfl, ?_, ⟨_, _, rfl, ?_, rfl⟩⟩) <;> (conv => whnf)
      all_goals exact ⟨rfl, rfl⟩
    have h1' : mayV 5 b = true := by
      have h1a : (!mayV 5 b) = false := h1
      simpa using h1a
    rw [if_pos h1'] at hw
    (conv => whnf)
    refine tst (fun h2 => ?_) (fun h2 => ?_)
    · have h2' : v < 0 := by simpa using h2
      rw [if_pos (.inl h2')] at hw
      subst hw
      (conv => whnf)
      (refine ⟨_, _, rfl, ?_, ⟨_, _, rfl, ?_, rfl⟩⟩) <;> (conv => whnf)
      all_goals exact ⟨rfl, rfl⟩
    have h2' : ¬ v < 0 := by simpa using h2
    (conv => whnf)
    refine tst (fun h3 => ?_) (fun h3 => ?_)
    · have h3' : maskV 1 < v := by
        have h3a : decide (maskV 1 < v) = true := h3
        simpa using h3a
      rw [if_pos (.inr h3')] at hw
      subst hw
      (conv => whnf)
      (refine ⟨_, _, rfl, ?_, ⟨_, _, rfl, ?_, rfl⟩⟩) <;> (conv => whnf)
      all_goals exact ⟨rfl, rfl⟩
    have h3' : ¬ maskV 1 < v := by
      have h3a : decide (maskV 1 < v) = false := h3
      simpa using h3a
    rw [if_neg (by simp only [not_or]; exact ⟨h2', h3'⟩)] at hw
    subst hw
    (conv => whnf)
    (refine ⟨_, _, rfl, ?_, ⟨_, _, rfl, ?_, rfl⟩⟩) <;> (conv => whnf)
    all_goals exact ⟨rfl, rfl⟩
  · rename_i b v
    simp only [Option.some.injEq, Prod.mk.injEq, true_and, decide_eq_true_eq, Bool.and_eq_true] at hg
    subst hg
    refine ⟨(by simp [Solids, Solid, Solidss]), ?_⟩
    have hw : wiV 7 b v = if mayV 7 b = true then (if v < 0 ∨ maskV 1 < v then (0, false) else (orI (andnI b (shlI (maskV 1) 4)) (shlI v 4), true)) else (0, false) := rfl
    generalize wiV 7 b v = r at *
    (conv => whnf)
    refine tst (fun h1 => ?_) (fun h1 => ?_)
    · have h1' : ¬ mayV 7 b = true := by
        have h1a : (!mayV 7 b) = true := h1
        simpa using h1a
      rw [if_neg h1'] at hw
      subst hw
      (conv => whnf)
      (refine ⟨_, _, rfl, ?_, ⟨_, _, rfl, ?_, rfl⟩⟩) <;> (conv => whnf)
      all_goals exact ⟨rfl, rfl⟩
    have h1' : mayV 7 b = true := by
      have h1a : (!mayV 7 b) = false := h1
      simpa using h1a
    rw [if_pos h1'] at hw
    (conv => whnf)
    refine tst (fun h2 => ?_) (fun h2 => ?_)
    · have h2' : v < 0 := by simpa using h2
      rw [if_pos (.inl h2')] at hw
      subst hw
      (conv => whnf)
      (refine ⟨_, _, rfl, ?_, ⟨_, _, rfl, ?_, rfl⟩⟩) <;> (conv => whnf)
      all_goals exact ⟨rfl, rfl⟩
    have h2' : ¬ v < 0 := by simpa using h2
    (conv => whnf)
    refine tst (fun h3 => ?_) (fun h3 => ?_)
    · have h3' : maskV 1 < v := by
        have h3a : decide (maskV 1 < v) = true := h3
        simpa using h3a
      rw [if_pos (.inr h3')] at hw
      subst hw
      (conv => whnf)
      (refine ⟨_, _, rfl, ?_, ⟨_, _, rfl, ?_, rfl⟩⟩) <;> (conv => whnf)
      all_goals exact ⟨rfl, rfl⟩
    have h3' : ¬ maskV 1 < v := by
      have h3a : decide (maskV 1 < v) = false := h3
      simpa using h3a
    rw [if_neg (by simp only [not_or]; exact ⟨h2', h3'⟩)] at hw
    subst hw
    (conv => whnf)
    (refine ⟨_, _, rfl, ?_, ⟨_, _, rfl, ?_, rfl⟩⟩) <;> (conv => whnf)
    all_goals exact ⟨rfl, rfl⟩
  · rename_i b v
    simp only [Option.some.injEq, Prod.mk.injEq, true_and, decide_eq_true_eq, Bool.and_eq_true] at hg
    subst hg
    refine ⟨(by simp [Solids, Solid, Solidss]), ?_⟩
    have hw : wiV 8 b v = if mayV 8 b = true then (if v < 0 ∨ maskV 4 < v then (0, false) else (orI (andnI b (shlI (maskV 4) 0)) (shlI v 0), true)) else (0, false) := rfl
    generalize wiV 8 b v = r at *
    (conv => whnf)
    refine tst (fun h1 => ?_) (fun h1 => ?_)
    · have h1' : ¬ mayV 8 b = true := by
        have h1a : (!mayV 8 b) = true := h1
        simpa using h1a
      rw [if_neg h1'] at hw
      subst hw
      (conv => whnf)
      (refine ⟨_, _, rfl, ?_, ⟨_, _, rfl, ?_, rfl⟩⟩) <;> (conv => whnf)
      all_goals exact ⟨rfl, rfl⟩
    have h1' : mayV 8 b = true := by
      have h1a : (!mayV 8 b) = false := h1
      simpa using h1a
    rw [if_pos h1'] at hw
    (conv => whnf)
    refine tst (fun h2 => ?_) (fun h2 => ?_)
    · have h2' : v < 0 := by simpa using h2
      rw [if_pos (.inl h2')] at hw
      subst hw
      (conv => whnf)
      (refine ⟨_, _, rfl, ?_, ⟨_, _, rfl, ?_, rfl⟩⟩) <;> (conv => whnf)
      all_goals exact ⟨rfl, rfl⟩
    have h2' : ¬ v < 0 := by simpa using h2
    (conv => whnf)
    refine tst (fun h3 => ?_) (fun h3 => ?_)
    · have h3' : maskV 4 < v := by
        have h3a : decide (maskV 4 < v) = true := h3
        simpa using h3a
      rw [if_pos (.inr h3')] at hw
      subst hw
      (conv => whnf)
      (refine ⟨_, _, rfl, ?_, ⟨_, _, rfl, ?_, rfl⟩⟩) <;> (conv => whnf)
      all_goals exact ⟨rfl, rfl⟩
    have h3' : ¬ maskV 4 < v := by
      have h3a : decide (maskV 4 < v) = false := h3
      simpa using h3a
    rw [if_neg (by simp only [not_or]; exact ⟨h2', h3'⟩)] at hw
    subst hw
    (conv => whnf)
    (refine ⟨_, _, rfl, ?_, ⟨_, _, rfl, ?_, rfl⟩⟩) <;> (conv => whnf)
    all_goals exact ⟨rfl, rfl⟩
  · cases hg
def T22b : Tbl := [(39, g39)]
/-- flag.lay -/
def g106 : List AV → Option (Bool × AV)
  | [.int .i64 0, .int .i64 b, .int .i64 v] => some (true, .int .i64 (layV 0 b v))
  | [.int .i64 1, .int .i64 b, .int .i64 v] => some (true, .int .i64 (layV 1 b v))
  | [.int .i64 4, .int .i64 b, .int .i64 v] => some (true, .int .i64 (layV 4 b v))
  | [.int .i64 5, .int .i64 b, .int .i64 v] => some (true, .int .i64 (layV 5 b v))
  | [.int .i64 7, .int .i64 b, .int .i64 v] => some (true, .int .i64 (layV 7 b v))
  | [.int .i64 8, .int .i64 b, .int .i64 v] => some (true, .int .i64 (layV 8 b v))
  | _ => none
theorem s106 : Spec (EY T22b) Tryz.f106 g106 := by
  intro args v hg
  unfold g106 at hg
  split at hg
  · rename_i b v
    simp only [Option.some.injEq, Prod.mk.injEq, true_and, decide_eq_true_eq, Bool.and_eq_true] at hg
    subst hg
    refine ⟨(by simp [Solids, Solid, Solidss]), ?_⟩
    unfold layV
    (conv => whnf)
    exact ⟨rfl, rfl⟩
  · rename_i b v
    simp only [Option.some.injEq, Prod.mk.injEq, true_and, decide_eq_true_eq, Bool.and_eq_true] at hg
    subst hg
    refine ⟨(by simp [Solids, Solid, Solidss]), ?_⟩
    unfold layV
    (conv => whnf)
    exact ⟨rfl, rfl⟩
  · rename_i b v
    simp only [Option.some.injEq, Prod.mk.injEq, true_and, decide_eq_true_eq, Bool.and_eq_true] at hg
    subst hg
    refine ⟨(by simp [Solids, Solid, Solidss]), ?_⟩
    unfold layV
    (conv => whnf)
    exact ⟨rfl, rfl⟩
  · rename_i b v
    simp only [Option.some.injEq, Prod.mk.injEq, true_and, decide_eq_true_eq, Bool.and_eq_true] at hg
    subst hg
    refine ⟨(by simp [Solids, Solid, Solidss]), ?_⟩
    unfold layV
    (conv => whnf)
    exact ⟨rfl, rfl⟩
  · rename_i b v
    simp only [Option.some.injEq, Prod.mk.injEq, true_and, decide_eq_true_eq, Bool.and_eq_true] at hg
    subst hg
    refine ⟨(by simp [Solids, Solid, Solidss]), ?_⟩
    unfold layV
    (conv => whnf)
    exact ⟨rfl, rfl⟩
  · rename_i b v
    simp only [Option.some.injEq, Prod.mk.injEq, true_and, decide_eq_true_eq, Bool.and_eq_true] at hg
    subst hg
    refine ⟨(by simp [Solids, Solid, Solidss]), ?_⟩
    unfold layV
    (conv => whnf)
    exact ⟨rfl, rfl⟩
  · cases hg
/-- flag.Of: of any bits -/
def g32b : List AV → Option (Bool × AV)
  | [.int .i64 1, .int .i64 b] => some (true, .int .i64 (oiV 1 b))
  | [.int .i64 4, .int .i64 b] => some (true, .int .i64 (oiV 4 b))
  | [.int .i64 7, .int .i64 b] => some (true, .int .i64 (oiV 7 b))
  | _ => none
theorem s32b : Spec (EY T22) Tryz.f32 g32b := by
  intro args v hg
  unfold g32b at hg
  split at hg
  · rename_i b
    simp only [Option.some.injEq, Prod.mk.injEq, true_and, decide_eq_true_eq, Bool.and_eq_true] at hg
    subst hg
    refine ⟨(by simp [Solids, Solid, Solidss]), ?_⟩
    unfold oiV
    (conv => whnf)
    refine tst (fun h1 => ?_) (fun h1 => ?_)
    · have h1' : ¬ mayV 1 b = true := by
        have h1a : (!mayV 1 b) = true := h1
        simpa using h1a
      rw [if_neg h1']
      (conv => whnf)
      exact ⟨rfl, rfl⟩
    · have h1' : mayV 1 b = true := by
        have h1a : (!mayV 1 b) = false := h1
        simpa using h1a
      rw [if_pos h1']
      (conv => whnf)
      exact ⟨rfl, rfl⟩
  · rename_i b
    simp only [Option.some.injEq, Prod.mk.injEq, true_and, decide_eq_true_eq, Bool.and_eq_true] at hg
    subst hg
    refine ⟨(by simp [Solids, Solid, Solidss]), ?_⟩
    unfold oiV
    (conv => whnf)
    refine tst (fun h1 => ?_) (fun h1 => ?_)
    · have h1' : ¬ mayV 4 b = true := by
        have h1a : (!mayV 4 b) = true := h1
        simpa using h1a
      rw [if_neg h1']
      (conv => whnf)
      exact ⟨rfl, rfl⟩
    · have h1' : mayV 4 b = true := by
        have h1a : (!mayV 4 b) = false := h1
        simpa using h1a
      rw [if_pos h1']
      (conv => whnf)
      exact ⟨rfl, rfl⟩
  · rename_i b
    simp only [Option.some.injEq, Prod.mk.injEq, true_and, decide_eq_true_eq, Bool.and_eq_true] at hg
    subst hg
    refine ⟨(by simp [Solids, Solid, Solidss]), ?_⟩
    unfold oiV
    (conv => whnf)
    refine tst (fun h1 => ?_) (fun h1 => ?_)
    · have h1' : ¬ mayV 7 b = true := by
        have h1a : (!mayV 7 b) = true := h1
        simpa using h1a
      rw [if_neg h1']
      (conv => whnf)
      exact ⟨rfl, rfl⟩
    · have h1' : mayV 7 b = true := by
        have h1a : (!mayV 7 b) = false := h1
        simpa using h1a
      rw [if_pos h1']
      (conv => whnf)
      exact ⟨rfl, rfl⟩
  · cases hg
def T22c : Tbl := [(106, g106), (32, g32b)]
def ansB (v : Int) : Int := layV 8 (layV 0 (layV 5 0 1) 1) (andI (bif decide (0 > v) then 0 else v) 15)
def ansN (b v : Int) : Nat → Int
  | 0 => ansB v
  | 1 => layV 1 (ansB v) (oiV 1 b)
  | 2 => layV 4 (layV 1 (ansB v) (oiV 1 b)) (oiV 4 b)
  | _ + 3 => layV 7 (layV 4 (layV 1 (ansB v) (oiV 1 b)) (oiV 4 b)) (oiV 7 b)
/-- flag.Answer -/
def ansV (b v : Int) : Int := ansN b v 3
def g67 : List AV → Option (Bool × AV)
  | [.int .i64 b, .int .i64 v] => some (true, .int .i64 (ansV b v))
  | _ => none
theorem s67 : Spec (EY T22c) Tryz.f67 g67 := by
  intro args v hg
  unfold g67 at hg
  split at hg
  · rename_i b v
    simp only [Option.some.injEq, Prod.mk.injEq, true_and, decide_eq_true_eq, Bool.and_eq_true] at hg
    subst hg
    refine ⟨(by simp [Solids, Solid, Solidss]), ?_⟩
    (conv => whnf)
    refine loopq (X := Nat) (fun i => i ≤ 3) (fun i => [(17, .int .i64 i), (16, .int .i64 3), (15, .sl 0 1 0 3), (5, .int .i64 (ansN b v i)), (0, .int .i64 b), (6, .fn (.func 32) [] [])]) (fun i => [.cells false 85 [.int .i64 1, .int .i64 4, .int .i64 7]]) (fun i => 3 - i) ?_ 0 (by omega)
      ⟨[0], rfl, rfl, ⟨⟨rfl, trivial⟩, ⟨rfl, trivial⟩, ⟨rfl, rfl⟩, ⟨?_, trivial⟩, ⟨rfl, trivial⟩, ⟨_, _, rfl, rfl, rfl⟩, trivial⟩, ⟨⟨_, rfl, RenL.solid _ (solidsB_ok _ rfl)⟩, trivial⟩⟩
    · intro i hi J hn hx
      match i, hi with
      | 0, _ =>
        (conv => whnf)
        refine hn 1 _ _ (by omega) (by omega) ⟨[0], rfl, rfl, ⟨⟨rfl, trivial⟩, ⟨rfl, trivial⟩, ⟨rfl, rfl⟩, ⟨?_, trivial⟩, ⟨rfl, trivial⟩, ⟨_, _, rfl, rfl, rfl⟩, trivial⟩, ⟨⟨_, rfl, RenL.solid _ (solidsB_ok _ rfl)⟩, trivial⟩⟩
        rfl
      | 1, _ =>
        (conv => whnf)
        refine hn 2 _ _ (by omega) (by omega) ⟨[0], rfl, rfl, ⟨⟨rfl, trivial⟩, ⟨rfl, trivial⟩, ⟨rfl, rfl⟩, ⟨?_, trivial⟩, ⟨rfl, trivial⟩, ⟨_, _, rfl, rfl, rfl⟩, trivial⟩, ⟨⟨_, rfl, RenL.solid _ (solidsB_ok _ rfl)⟩, trivial⟩⟩
        rfl
      | 2, _ =>
        (conv => whnf)
        refine hn 3 _ _ (by omega) (by omega) ⟨[0], rfl, rfl, ⟨⟨rfl, trivial⟩, ⟨rfl, trivial⟩, ⟨rfl, rfl⟩, ⟨?_, trivial⟩, ⟨rfl, trivial⟩, ⟨_, _, rfl, rfl, rfl⟩, trivial⟩, ⟨⟨_, rfl, RenL.solid _ (solidsB_ok _ rfl)⟩, trivial⟩⟩
        rfl
      | 3, _ =>
        (conv => whnf)
        refine hx _ _ _ (by intro e; cases e) ?_
        (conv => whnf)
        exact ⟨rfl, rfl⟩
    · rfl
  · cases hg
end Go.Abs.R
