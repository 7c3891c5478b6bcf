import Derived.Test.YtaifmmemfmapkaaGreatSh
import Derived.Test.YtaifmmemfmapkaaGreatMod7
namespace Go.Abs.R
open Go.Abs Go.Proofs
set_option maxRecDepth 100000
set_option linter.unusedVariables false
set_option linter.unusedSimpArgs false
/-- record.in -/
theorem s130 : Spec (EY []) Tryz.f130 g102 := by
  intro args v hg
  unfold g102 at hg
  split at hg
  · rename_i n m
    simp only [Option.some.injEq, Prod.mk.injEq, true_and, decide_eq_true_eq, Bool.and_eq_true] at hg
    subst hg
    refine ⟨(by simp [Solids, Solid, Solidss]), ?_⟩
    (conv => whnf)
    refine tst (fun h1 => ?_) (fun h1 => ?_) <;> (conv => whnf)
    all_goals (simp_all [inV]; try omega)
  · cases hg
/-- msg.small -/
def g107 : List AV → Option (Bool × AV)
  | [.int .i64 n] => some (true, .bool (inV n 65535))
  | _ => none
theorem s107 : Spec (EY []) Tryz.f107 g107 := by
  intro args v hg
  unfold g107 at hg
  split at hg
  · rename_i n
    simp only [Option.some.injEq, Prod.mk.injEq, true_and, decide_eq_true_eq, Bool.and_eq_true] at hg
    subst hg
    refine ⟨(by simp [Solids, Solid, Solidss]), ?_⟩
    (conv => whnf)
    refine tst (fun h1 => ?_) (fun h1 => ?_) <;> (conv => whnf)
    all_goals (simp_all [inV]; try omega)
  · cases hg
/-- name.split -/
def g116 : List AV → Option (Bool × AV)
  | [.str n] => some (true, .tup [namesV (splitV n).1, .bool (splitV n).2])
  | _ => none
structure SP where
  n : Bs
  l : List Bs
def SP.S (x : SP) : List (Nat × AV) := match x.l with
  | [] => [(0, .str x.n), (4, .emp true)]
  | a :: l => [(0, .str x.n), (4, .sl 0 1 0 (a :: l).length)]
def SP.H (x : SP) : Heap := match x.l with
  | [] => []
  | a :: l => [.cells false 9 (strCells (a :: l))]
theorem s116 : Spec (EY []) Tryz.f116 g116 := by
  intro args v hg
  unfold g116 at hg
  split at hg
  · rename_i n
    simp only [Option.some.injEq, Prod.mk.injEq, true_and, decide_eq_true_eq, Bool.and_eq_true] at hg
    subst hg
    refine ⟨(by simp [Solids, Solid, Solidss]), ?_⟩
    generalize hR : splitV n = R
    unfold splitV at hR
    (conv => whnf)
    refine tst (fun h1 => ?_) (fun h1 => ?_)
    · have hl : 255 < n.length := by simp only [decide_eq_true_eq] at h1; omega
      rw [if_pos hl] at hR
      subst hR
      (conv => whnf)
      (refine ⟨_, _, rfl, ?_, ⟨_, _, rfl, ?_, rfl⟩⟩) <;> (conv => whnf)
      exact ⟨rfl, trivial⟩
    have hl : ¬ 255 < n.length := by simp only [decide_eq_false_iff_not] at h1; omega
    rw [if_neg hl] at hR
    (conv => whnf)
    refine loopq (X := SP) (fun x => x.n.length ≤ 255 ∧ x.l.length ≤ 255 - x.n.length ∧ ∃ k, x.n.length < k ∧ splitN k x.n x.l = R) SP.S SP.H (fun x => x.n.length) ?_ ⟨n, []⟩ ⟨by simp only; omega, Nat.zero_le _, n.length + 1, Nat.lt_succ_self _, hR⟩
      ⟨[], rfl, rfl, ⟨⟨rfl, trivial⟩, ⟨rfl, trivial⟩, trivial⟩, trivial⟩
    rintro ⟨n, l⟩ ⟨i1, i2, k, i3, i4⟩ J hn hx
    simp only at i1 i2 i3 i4
    obtain ⟨k, rfl⟩ : ∃ m, k = m + 1 := ⟨k - 1, by omega⟩
    cases l with
    | nil =>
      cases n with
      | nil =>
        simp only [splitN] at i4
        subst i4
        (conv => whnf)
        refine hx _ _ _ (by intro e; cases e) ?_
        (conv => whnf)
        (refine ⟨_, _, rfl, ?_, ⟨_, _, rfl, ?_, rfl⟩⟩) <;> (conv => whnf)
        · exact ⟨rfl, trivial⟩
        · rfl
      | cons c r =>
        simp only [splitN] at i4
        (conv => whnf)
        refine tst (fun h0 => ?_) (fun h0 => absurd h0 (by simp))
        (conv => whnf)
        refine tst (fun h2 => ?_) (fun h2 => ?_)
        · have h2' : c :: r ≠ [0] := fun e => by
            have h2a : (!(c :: r == [0])) = true := h2
            rw [e] at h2a
            cases h2a
          rw [if_neg h2'] at i4
          have hc := c.toNat_lt
          simp only [List.length_cons] at i1 i2 i3
          have w1 : IntKind.i64.wrap (((List.getD (c :: r) (Int.toNat 0) 0).toNat : Nat) : Int) = (c.toNat : Int) := wr (x := (c.toNat : Int)) (by omega) (by omega)
          have w2 : IntKind.i64.wrap ((c.toNat : Int) + 1) = (c.toNat : Int) + 1 := wr (by omega) (by omega)
          have w3 : IntKind.i64.wrap (1 + (c.toNat : Int)) = 1 + (c.toNat : Int) := wr (by omega) (by omega)
          (conv => whnf)
          refine obl (by simp [idxOk]) ?_
          (conv => whnf)
          refine tst (fun h3 => ?_) (fun h3 => ?_)
          · have h3' : c.toNat < 1 := by simp only [w1, decide_eq_true_eq] at h3; omega
            rw [if_pos (.inl h3')] at i4
            subst i4
            (conv => whnf)
            refine hx _ _ _ (by intro e; cases e) ?_
            (conv => whnf)
            (refine ⟨_, _, rfl, ?_, ⟨_, _, rfl, ?_, rfl⟩⟩) <;> (conv => whnf)
            exact ⟨rfl, trivial⟩
          have h3' : ¬ c.toNat < 1 := by simp only [w1, decide_eq_false_iff_not] at h3; omega
          (conv => whnf)
          refine tst (fun h4 => ?_) (fun h4 => ?_)
          · have h4' : 63 < c.toNat := by simp only [w1, cond_false, decide_eq_true_eq] at h4; omega
            rw [if_pos (.inr (.inl h4'))] at i4
            subst i4
            (conv => whnf)
            refine hx _ _ _ (by intro e; cases e) ?_
            (conv => whnf)
            (refine ⟨_, _, rfl, ?_, ⟨_, _, rfl, ?_, rfl⟩⟩) <;> (conv => whnf)
            exact ⟨rfl, trivial⟩
          have h4' : ¬ 63 < c.toNat := by simp only [w1, cond_false, decide_eq_false_iff_not] at h4; omega
          (conv => whnf)
          refine tst (fun h5 => ?_) (fun h5 => ?_)
          · have h5' : (c :: r).length ≤ c.toNat + 1 := by
              simp only [w1, w2, cond_false, decide_eq_true_eq] at h5; omega
            rw [if_pos (.inr (.inr h5'))] at i4
            subst i4
            (conv => whnf)
            refine hx _ _ _ (by intro e; cases e) ?_
            (conv => whnf)
            (refine ⟨_, _, rfl, ?_, ⟨_, _, rfl, ?_, rfl⟩⟩) <;> (conv => whnf)
            exact ⟨rfl, trivial⟩
          have h5' : ¬ (c :: r).length ≤ c.toNat + 1 := by
            simp only [w1, w2, cond_false, decide_eq_false_iff_not] at h5; omega
          rw [if_neg (by simp only [not_or]; exact ⟨h3', h4', h5'⟩)] at i4
          simp only [List.length_cons] at h5'
          (conv => whnf)
          have e1 : List.take (Int.toNat (IntKind.i64.wrap (1 + IntKind.i64.wrap (((List.getD (c :: r) (Int.toNat 0) 0).toNat : Nat) : Int))) - Int.toNat 1) (List.drop (Int.toNat 1) (c :: r)) = r.take c.toNat := by
            rw [w1, w3, show Int.toNat (1 + (c.toNat : Int)) - Int.toNat 1 = c.toNat by omega]; rfl
          have e2 : List.take (Int.toNat ((c :: r).length : Int) - Int.toNat (IntKind.i64.wrap (1 + IntKind.i64.wrap (((List.getD (c :: r) (Int.toNat 0) 0).toNat : Nat) : Int)))) (List.drop (Int.toNat (IntKind.i64.wrap (1 + IntKind.i64.wrap (((List.getD (c :: r) (Int.toNat 0) 0).toNat : Nat) : Int)))) (c :: r)) = r.drop c.toNat := by
            rw [w1, w3, show Int.toNat (1 + (c.toNat : Int)) = c.toNat + 1 by omega, List.drop_succ_cons, List.take_of_length_le (by simp only [List.length_drop, List.length_cons]; omega)]
          refine obl (show bndOk 1 (IntKind.i64.wrap (1 + IntKind.i64.wrap (((List.getD (c :: r) (Int.toNat 0) 0).toNat : Nat) : Int))) ((c :: r).length : Int) = true by rw [w1, w3]; simp [bndOk]; omega) ?_
          (conv => whnf)
          refine obl (show bndOk (IntKind.i64.wrap (1 + IntKind.i64.wrap (((List.getD (c :: r) (Int.toNat 0) 0).toNat : Nat) : Int))) ((c :: r).length : Int) ((c :: r).length : Int) = true by rw [w1, w3]; simp [bndOk]; omega) ?_
          (conv => whnf)
          refine hn ⟨r.drop c.toNat, [r.take c.toNat]⟩ _ _ ⟨by simp only [List.length_drop]; omega, by simp only [List.length_drop, List.length_cons, List.length_nil]; omega, k, by simp only [List.length_drop]; omega, by simpa using i4⟩ (by simp only [List.length_drop, List.length_cons]; omega)
            ⟨[1], rfl, rfl, ⟨⟨?_, trivial⟩, ⟨rfl, rfl⟩, trivial⟩, ⟨⟨[.str (List.take (Int.toNat (IntKind.i64.wrap (1 + IntKind.i64.wrap (((List.getD (c :: r) (Int.toNat 0) 0).toNat : Nat) : Int))) - Int.toNat 1) (List.drop (Int.toNat 1) (c :: r)))], rfl, ?_⟩, trivial⟩⟩
          · show AV.str (List.take (Int.toNat ((c :: r).length : Int) - Int.toNat (IntKind.i64.wrap (1 + IntKind.i64.wrap (((List.getD (c :: r) (Int.toNat 0) 0).toNat : Nat) : Int)))) (List.drop (Int.toNat (IntKind.i64.wrap (1 + IntKind.i64.wrap (((List.getD (c :: r) (Int.toNat 0) 0).toNat : Nat) : Int)))) (c :: r))) = _
            rw [e2]
          · rw [e1]; exact RenL.solid _ (solidsB_ok _ rfl)
        · have h2' : c :: r = [0] := by simpa using h2
          rw [if_pos h2'] at i4
          subst i4
          (conv => whnf)
          refine hx _ _ _ (by intro e; cases e) ?_
          (conv => whnf)
          (refine ⟨_, _, rfl, ?_, ⟨_, _, rfl, ?_, rfl⟩⟩) <;> (conv => whnf)
          · exact ⟨rfl, trivial⟩
          · show (c :: r == [0]) = true
            rw [h2']; rfl
    | cons a l =>
      cases n with
      | nil =>
        simp only [splitN] at i4
        subst i4
        (conv => whnf)
        refine hx _ _ _ (by intro e; cases e) ?_
        (conv => whnf)
        (refine ⟨_, _, rfl, ?_, ⟨_, _, rfl, ?_, rfl⟩⟩) <;> (conv => whnf)
        · exact ⟨rfl, by simp [strR], by show 0 + (a :: l).length * 1 ≤ (strCells (a :: l)).length; rw [strCells_length]; omega, finRQ_any (solid_strR _) (strR_one _) (by rw [List.drop_zero, strR_flat])⟩
        · rfl
      | cons c r =>
        simp only [splitN] at i4
        (conv => whnf)
        refine tst (fun h0 => ?_) (fun h0 => absurd h0 (by simp))
        (conv => whnf)
        refine tst (fun h2 => ?_) (fun h2 => ?_)
        · have h2' : c :: r ≠ [0] := fun e => by
            have h2a : (!(c :: r == [0])) = true := h2
            rw [e] at h2a
            cases h2a
          rw [if_neg h2'] at i4
          have hc := c.toNat_lt
          simp only [List.length_cons] at i1 i2 i3
          have w1 : IntKind.i64.wrap (((List.getD (c :: r) (Int.toNat 0) 0).toNat : Nat) : Int) = (c.toNat : Int) := wr (x := (c.toNat : Int)) (by omega) (by omega)
          have w2 : IntKind.i64.wrap ((c.toNat : Int) + 1) = (c.toNat : Int) + 1 := wr (by omega) (by omega)
          have w3 : IntKind.i64.wrap (1 + (c.toNat : Int)) = 1 + (c.toNat : Int) := wr (by omega) (by omega)
          (conv => whnf)
          refine obl (by simp [idxOk]) ?_
          (conv => whnf)
          refine tst (fun h3 => ?_) (fun h3 => ?_)
          · have h3' : c.toNat < 1 := by simp only [w1, decide_eq_true_eq] at h3; omega
            rw [if_pos (.inl h3')] at i4
            subst i4
            (conv => whnf)
            refine hx _ _ _ (by intro e; cases e) ?_
            (conv => whnf)
            (refine ⟨_, _, rfl, ?_, ⟨_, _, rfl, ?_, rfl⟩⟩) <;> (conv => whnf)
            exact ⟨rfl, trivial⟩
          have h3' : ¬ c.toNat < 1 := by simp only [w1, decide_eq_false_iff_not] at h3; omega
          (conv => whnf)
          refine tst (fun h4 => ?_) (fun h4 => ?_)
          · have h4' : 63 < c.toNat := by simp only [w1, cond_false, decide_eq_true_eq] at h4; omega
            rw [if_pos (.inr (.inl h4'))] at i4
            subst i4
            (conv => whnf)
            refine hx _ _ _ (by intro e; cases e) ?_
            (conv => whnf)
            (refine ⟨_, _, rfl, ?_, ⟨_, _, rfl, ?_, rfl⟩⟩) <;> (conv => whnf)
            exact ⟨rfl, trivial⟩
          have h4' : ¬ 63 < c.toNat := by simp only [w1, cond_false, decide_eq_false_iff_not] at h4; omega
          (conv => whnf)
          refine tst (fun h5 => ?_) (fun h5 => ?_)
          · have h5' : (c :: r).length ≤ c.toNat + 1 := by
              simp only [w1, w2, cond_false, decide_eq_true_eq] at h5; omega
            rw [if_pos (.inr (.inr h5'))] at i4
            subst i4
            (conv => whnf)
            refine hx _ _ _ (by intro e; cases e) ?_
            (conv => whnf)
            (refine ⟨_, _, rfl, ?_, ⟨_, _, rfl, ?_, rfl⟩⟩) <;> (conv => whnf)
            exact ⟨rfl, trivial⟩
          have h5' : ¬ (c :: r).length ≤ c.toNat + 1 := by
            simp only [w1, w2, cond_false, decide_eq_false_iff_not] at h5; omega
          rw [if_neg (by simp only [not_or]; exact ⟨h3', h4', h5'⟩)] at i4
          simp only [List.length_cons] at h5'
          (conv => whnf)
          have e1 : List.take (Int.toNat (IntKind.i64.wrap (1 + IntKind.i64.wrap (((List.getD (c :: r) (Int.toNat 0) 0).toNat : Nat) : Int))) - Int.toNat 1) (List.drop (Int.toNat 1) (c :: r)) = r.take c.toNat := by
            rw [w1, w3, show Int.toNat (1 + (c.toNat : Int)) - Int.toNat 1 = c.toNat by omega]; rfl
          have e2 : List.take (Int.toNat ((c :: r).length : Int) - Int.toNat (IntKind.i64.wrap (1 + IntKind.i64.wrap (((List.getD (c :: r) (Int.toNat 0) 0).toNat : Nat) : Int)))) (List.drop (Int.toNat (IntKind.i64.wrap (1 + IntKind.i64.wrap (((List.getD (c :: r) (Int.toNat 0) 0).toNat : Nat) : Int)))) (c :: r)) = r.drop c.toNat := by
            rw [w1, w3, show Int.toNat (1 + (c.toNat : Int)) = c.toNat + 1 by omega, List.drop_succ_cons, List.take_of_length_le (by simp only [List.length_drop, List.length_cons]; omega)]
          refine obl (show bndOk 1 (IntKind.i64.wrap (1 + IntKind.i64.wrap (((List.getD (c :: r) (Int.toNat 0) 0).toNat : Nat) : Int))) ((c :: r).length : Int) = true by rw [w1, w3]; simp [bndOk]; omega) ?_
          (conv => whnf)
          have tk : List.take ((a :: l).length * 1) (strCells (a :: l)) = strCells (a :: l) := by
            rw [Nat.mul_one]; exact List.take_of_length_le (by rw [strCells_length]; omega)
          refine obl ?_ ?_
          · show (true && Nat.beq 9 9 && Nat.beq 1 1 && Nat.beq 0 0 && ((a :: l).length * 1).beq (List.take ((a :: l).length * 1) (strCells (a :: l))).length && roomy ((a :: l).length + 1) 16) = true
            rw [tk, strCells_length, Nat.mul_one]
            simp only [List.length_cons, Nat.beq_eq, roomy, Nat.ble_eq, Bool.and_eq_true, true_and, and_true]
            omega
          (conv => whnf)
          refine obl (show bndOk (IntKind.i64.wrap (1 + IntKind.i64.wrap (((List.getD (c :: r) (Int.toNat 0) 0).toNat : Nat) : Int))) ((c :: r).length : Int) ((c :: r).length : Int) = true by rw [w1, w3]; simp [bndOk]; omega) ?_
          (conv => whnf)
          refine hn ⟨r.drop c.toNat, a :: l ++ [r.take c.toNat]⟩ _ _ ⟨by simp only [List.length_drop]; omega, by simp only [List.length_append, List.length_drop, List.length_cons, List.length_nil] at i2 ⊢; omega, k, by simp only [List.length_drop]; omega, by simpa using i4⟩ (by simp only [List.length_drop, List.length_cons]; omega)
            ⟨[2], rfl, rfl, ⟨⟨?_, trivial⟩, ⟨rfl, ?_⟩, trivial⟩, ⟨⟨List.take ((a :: l).length * 1) (strCells (a :: l)) ++ [.str (List.take (Int.toNat (IntKind.i64.wrap (1 + IntKind.i64.wrap (((List.getD (c :: r) (Int.toNat 0) 0).toNat : Nat) : Int))) - Int.toNat 1) (List.drop (Int.toNat 1) (c :: r)))], rfl, ?_⟩, trivial⟩⟩
          · show AV.str (List.take (Int.toNat ((c :: r).length : Int) - Int.toNat (IntKind.i64.wrap (1 + IntKind.i64.wrap (((List.getD (c :: r) (Int.toNat 0) 0).toNat : Nat) : Int)))) (List.drop (Int.toNat (IntKind.i64.wrap (1 + IntKind.i64.wrap (((List.getD (c :: r) (Int.toNat 0) 0).toNat : Nat) : Int)))) (c :: r))) = _
            rw [e2]
          · show AV.sl 2 1 0 ((a :: l).length + 1) = AV.sl 2 1 0 (a :: l ++ [r.take c.toNat]).length
            rw [List.length_append]; rfl
          · refine renL_eq (solid_strCells _) ?_
            rw [tk, e1]; simp [strCells]
        · have h2' : c :: r = [0] := by simpa using h2
          rw [if_pos h2'] at i4
          subst i4
          (conv => whnf)
          refine hx _ _ _ (by intro e; cases e) ?_
          (conv => whnf)
          (refine ⟨_, _, rfl, ?_, ⟨_, _, rfl, ?_, rfl⟩⟩) <;> (conv => whnf)
          · exact ⟨rfl, by simp [strR], by show 0 + (a :: l).length * 1 ≤ (strCells (a :: l)).length; rw [strCells_length]; omega, finRQ_any (solid_strR _) (strR_one _) (by rw [List.drop_zero, strR_flat])⟩
          · show (c :: r == [0]) = true
            rw [h2']; rfl
  · cases hg
/-- name.Check -/
def g78 : List AV → Option (Bool × AV)
  | [.str n] => some (true, .bool (nameB n))
  | _ => none
def T17 : Tbl := [(116, g116)]
theorem s78 : Spec (EY T17) Tryz.f78 g78 := by
  intro args v hg
  unfold g78 at hg
  split at hg
  · rename_i n
    simp only [Option.some.injEq, Prod.mk.injEq, true_and, decide_eq_true_eq, Bool.and_eq_true] at hg
    subst hg
    refine ⟨(by simp [Solids, Solid, Solidss]), ?_⟩
    generalize hR : nameB n = b
    unfold nameB at hR
    (conv => whnf)
    generalize splitV n = R at *
    obtain ⟨l, d⟩ := R
    simp only at hR ⊢
    subst hR
    cases l with
    | nil => (conv => whnf)
    | cons a l => (conv => whnf)
  · cases hg
end Go.Abs.R
