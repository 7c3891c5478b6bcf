import Derived.Test.YtaifmmemfmapkaaGreatSf
import Derived.Test.YtaifmmemfmapkaaGreatMods
namespace Go.Abs.R
open Go.Abs Go.Proofs
set_option maxRecDepth 100000
set_option linter.unusedVariables false
set_option linter.unusedSimpArgs false
def T10 : Tbl := [(64, g64), (31, g31), (60, g60)]
def inV (n m : Int) : Bool := decide (0 ≤ n) && decide (n ≤ m)
/-- edns.in -/
def g102 : List AV → Option (Bool × AV)
  | [.int .i64 n, .int .i64 m] => some (true, .bool (inV n m))
  | _ => none
theorem s102 : Spec (EY T10) Tryz.f102 g102 := by
  intro args v hg
  unfold g102 at hg
  split at hg
  · rename_i n m
    simp only [Option.some.injEq, Prod.mk.injEq, true_and, decide_eq_true_eq, Bool.and_eq_true] at hg
    subst hg
    refine ⟨(by simp [Solids, Solid, Solidss]), ?_⟩
    (conv => whnf)
    refine tst (fun h1 => ?_) (fun h1 => ?_) <;> (conv => whnf)
    all_goals (simp_all [inV]; try omega)
  · cases hg
/-- edns.opt -/
def g100 : List AV → Option (Bool × AV)
  | [.agg [.str a, .int .i64 k, .int .i64 c, .int .i64 t, .str d]] => some (true, .bool (decide (k = 41)))
  | _ => none
theorem s100 : Spec (EY T10) Tryz.f100 g100 := by
  intro args v hg
  unfold g100 at hg
  split at hg
  · rename_i a k c t d
    simp only [Option.some.injEq, Prod.mk.injEq, true_and, decide_eq_true_eq, Bool.and_eq_true] at hg
    subst hg
    refine ⟨(by simp [Solids, Solid, Solidss]), ?_⟩
    (conv => whnf)
    rfl
  · cases hg
def T10b : Tbl := [(100, g100), (102, g102)]
def isRr : List AV → Bool
  | [.str _, .int .i64 _, .int .i64 _, .int .i64 _, .str _] => true
  | _ => false
def rOf (y : List AV) : Rr := ⟨(y.getD 0 .undef).toS, (y.getD 1 .undef).toI, (y.getD 2 .undef).toI, (y.getD 3 .undef).toI, (y.getD 4 .undef).toS⟩
theorem rR_of : ∀ {ys : List (List AV)}, ys.all isRr = true → ys = (ys.map rOf).map rC
  | [], _ => rfl
  | y :: ys, h => by
    simp only [List.all_cons, Bool.and_eq_true] at h
    obtain ⟨h1, h2⟩ := h
    unfold isRr at h1
    split at h1
    · rw [List.map_cons, List.map_cons, ← rR_of h2]; rfl
    · cases h1
def rrsOf : AV → List Rr
  | .row 5 ys => ys.map rOf
  | _ => []
def rrsOk : AV → Bool
  | .emp true => true
  | .row 5 ys => ys.all isRr && decide (ys.length ≤ 1099511627776)
  | _ => false
theorem rR_get {l : List Rr} {i : Nat} (h : i < l.length) : List.getD (l.map rC) i [] = rC (l[i]'h) := by
  simp [List.getD_eq_getElem?_getD, List.getElem?_eq_getElem h]
theorem idxOpt_drop : ∀ (l : List Rr) (i : Nat) (h : i < l.length), (∀ j (hj : j < l.length), j < i → (l[j]'hj).kind ≠ 41) → (l[i]'h).kind = 41 → idxOpt l = i
  | [], i, h, _, _ => by simp at h
  | r :: l, 0, h, _, hk => by simp only [List.getElem_cons_zero] at hk; simp [idxOpt, hk]
  | r :: l, i + 1, h, hj, hk => by
    have h0 := hj 0 (by simp) (by omega)
    simp only [List.getElem_cons_zero] at h0
    have := idxOpt_drop l i (by simpa using h) (fun j hj' hlt => by have := hj (j + 1) (by simpa using hj') (by omega); simpa using this) (by simpa using hk)
    simp only [idxOpt, if_neg h0, this]
    rw [if_neg (by omega)]
    push_cast; rfl
theorem idxOpt_none : ∀ (l : List Rr), (∀ j (hj : j < l.length), (l[j]'hj).kind ≠ 41) → idxOpt l = -1
  | [], _ => rfl
  | r :: l, hj => by
    have h0 := hj 0 (by simp)
    simp only [List.getElem_cons_zero] at h0
    have := idxOpt_none l (fun j hj' => by have := hj (j + 1) (by simpa using hj'); simpa using this)
    simp only [idxOpt, if_neg h0, this]; rfl
/-- slices.IndexFunc of records, by edns.opt -/
def g99 : List AV → Option (Bool × AV)
  | [.emp true, .fn (.func 100) [] []] => some (true, .int .i64 (-1))
  | [.row 5 ys, .fn (.func 100) [] []] => some (ys.all isRr && decide (ys.length ≤ 1099511627776), .int .i64 (idxOpt (ys.map rOf)))
  | _ => none
theorem s99 : Spec (EY T10b) Tryz.f99 g99 := by
  intro args v hg
  unfold g99 at hg
  split at hg
  · simp only [Option.some.injEq, Prod.mk.injEq, true_and, decide_eq_true_eq, Bool.and_eq_true] at hg
    subst hg
    refine ⟨(by simp [Solids, Solid, Solidss]), ?_⟩
    (conv => whnf)
    refine loopq (X := Nat) (fun _ => True) (fun i => [(8, .int .i64 0), (7, .int .i64 0)]) (fun _ => []) (fun i => 0) ?_ 0 trivial ⟨[], rfl, rfl, ⟨⟨rfl, trivial⟩, ⟨rfl, trivial⟩, trivial⟩, trivial⟩
    intro i hi J hn hx
    (conv => whnf)
    refine hx _ _ _ (by intro e; cases e) ?_
    (conv => whnf)
    exact ⟨rfl, rfl⟩
  · rename_i ys
    simp only [Option.some.injEq, Prod.mk.injEq, true_and, decide_eq_true_eq, Bool.and_eq_true] at hg
    obtain ⟨hn, rfl⟩ := hg
    have hy := rR_of hn.1
    generalize ys.map rOf = l at *
    subst hy
    have hl : l.length ≤ 1099511627776 := by simpa using hn.2
    refine ⟨⟨solid_rR _, ⟨trivial, trivial⟩, trivial⟩, ?_⟩
    (conv => whnf)
    refine loopq (X := Nat) (fun i => i ≤ l.length ∧ ∀ j (hj : j < l.length), j < i → (l[j]'hj).kind ≠ 41) (fun i => [(8, .int .i64 i), (7, .int .i64 l.length), (0, .row 5 (l.map rC)), (1, .fn (.func 100) [] [])]) (fun _ => []) (fun i => l.length - i) ?_ 0 ⟨Nat.zero_le _, fun j hj h => by omega⟩
      ⟨[], rfl, rfl, ⟨⟨rfl, trivial⟩, ⟨?_, trivial⟩, ⟨rfl, solid_rR _⟩, ⟨_, _, rfl, rfl, rfl⟩, trivial⟩, trivial⟩
    · intro i ⟨hi, hk⟩ J hn hx
      (conv => whnf)
      refine tst (fun h3 => ?_) (fun h3 => ?_)
      · have hil : i < l.length := by simpa using h3
        have gd : List.getD (l.map rC) (Int.toNat (i : Int)) [] = rC (l[i]'hil) := by rw [Int.toNat_natCast]; exact rR_get hil
        (conv => whnf)
        refine obl (by simp [idxOk]; omega) ?_
        rw [gd]
        (conv => whnf)
        refine tst (fun h4 => ?_) (fun h4 => ?_)
        · have h41 : (l[i]'hil).kind = 41 := by
            have h4' : decide ((l[i]'hil).kind = 41) = true := h4
            simpa using h4'
          (conv => whnf)
          refine hx _ _ _ (by intro e; cases e) ?_
          (conv => whnf)
          exact ⟨rfl, (idxOpt_drop l i hil hk h41).symm⟩
        · have h41 : (l[i]'hil).kind ≠ 41 := by
            have h4' : decide ((l[i]'hil).kind = 41) = false := h4
            simpa using h4'
          (conv => whnf)
          refine hn (i + 1) _ _ ⟨by omega, fun j hj hlt => ?_⟩ (by omega) ⟨[], rfl, rfl, ⟨⟨?_, trivial⟩, ⟨rfl, trivial⟩, ⟨rfl, solid_rR _⟩, ⟨_, _, rfl, rfl, rfl⟩, trivial⟩, trivial⟩
          · by_cases hji : j = i
            · subst hji; exact h41
            · exact hk j hj (by omega)
          · show AV.int .i64 (IntKind.i64.wrap ((i : Int) + 1)) = _
            rw [wr (by omega) (by omega)]; rfl
      · have hil : ¬ i < l.length := by simpa using h3
        (conv => whnf)
        refine hx _ _ _ (by intro e; cases e) ?_
        (conv => whnf)
        exact ⟨rfl, (idxOpt_none l fun j hj => hk j hj (by omega)).symm⟩
    · show AV.int .i64 ((l.map rC).length : Int) = _
      rw [List.length_map]
  · cases hg
end Go.Abs.R

namespace Go.Abs.R
open Go.Abs Go.Proofs
set_option maxRecDepth 100000
set_option linter.unusedVariables false
set_option linter.unusedSimpArgs false
def T11 : Tbl := [(99, g99), (100, g100), (102, g102)]
/-- slices.ContainsFunc of records, by edns.opt -/
def g101 : List AV → Option (Bool × AV)
  | [.emp true, .fn (.func 100) [] []] => some (true, .bool false)
  | [.row 5 ys, .fn (.func 100) [] []] => some (ys.all isRr && decide (ys.length ≤ 1099511627776), .bool (decide (0 ≤ idxOpt (ys.map rOf))))
  | _ => none
theorem rrsOk_solid {n : AV} (h : rrsOk n = true) : Solid n := by
  unfold rrsOk at h
  split at h
  · trivial
  · rename_i ys
    simp only [Bool.and_eq_true] at h
    rw [rR_of h.1]
    exact solid_rR _
  · cases h
theorem s101 : Spec (EY T11) Tryz.f101 g101 := by
  intro args v hg
  unfold g101 at hg
  split at hg
  · simp only [Option.some.injEq, Prod.mk.injEq, true_and, decide_eq_true_eq, Bool.and_eq_true] at hg
    subst hg
    refine ⟨(by simp [Solids, Solid, Solidss]), ?_⟩
    (conv => whnf)
    decide
  · rename_i ys
    simp only [Option.some.injEq, Prod.mk.injEq, true_and, decide_eq_true_eq, Bool.and_eq_true] at hg
    obtain ⟨hn, rfl⟩ := hg
    refine ⟨⟨rrsOk_solid (n := .row 5 ys) (by simp [rrsOk, hn]), ⟨trivial, trivial⟩, trivial⟩, ?_⟩
    (conv => whnf)
    refine obl (by simp only [Bool.and_eq_true, decide_eq_true_eq]; exact hn) ?_
    (conv => whnf)
  · cases hg
def T11b : Tbl := [(101, g101), (99, g99), (100, g100), (102, g102)]
/-- edns.Find -/
def g65 : List AV → Option (Bool × AV)
  | [.agg [.int .i64 id, .int .i64 b, q, an, ns, ar]] => some (solidB q && rrsOk an && rrsOk ns && rrsOk ar,
      .tup [.agg [.bool (findV ⟨id, b, [], rrsOf an, rrsOf ns, rrsOf ar⟩).1.has, .int .i64 (findV ⟨id, b, [], rrsOf an, rrsOf ns, rrsOf ar⟩).1.size, .int .i64 (findV ⟨id, b, [], rrsOf an, rrsOf ns, rrsOf ar⟩).1.ext,
        .int .i64 (findV ⟨id, b, [], rrsOf an, rrsOf ns, rrsOf ar⟩).1.vers, .bool (findV ⟨id, b, [], rrsOf an, rrsOf ns, rrsOf ar⟩).1.dO], .int .i64 (findV ⟨id, b, [], rrsOf an, rrsOf ns, rrsOf ar⟩).2])
  | _ => none
theorem rrsOf_rC (l : List Rr) : (l.map rC).map rOf = l := by
  rw [List.map_map]
  conv => rhs; rw [← List.map_id l]
  exact List.map_congr_left fun x _ => rfl
theorem isRr_rC (l : List Rr) : (l.map rC).all isRr = true := by
  rw [List.all_eq_true]; intro x hx
  simp only [List.mem_map] at hx
  obtain ⟨y, _, rfl⟩ := hx; rfl
set_option maxHeartbeats 4000000 in
theorem s65 : Spec (EY T11b) Tryz.f65 g65 := by
  intro args v hg
  unfold g65 at hg
  split at hg
  · rename_i id b q an ns ar
    simp only [Option.some.injEq, Prod.mk.injEq, true_and, decide_eq_true_eq, Bool.and_eq_true] at hg
    obtain ⟨⟨⟨⟨hq, ha⟩, hns⟩, har⟩, rfl⟩ := hg
    refine ⟨⟨⟨trivial, trivial, solidB_ok q hq, rrsOk_solid ha, rrsOk_solid hns, rrsOk_solid har, trivial⟩, trivial⟩, ?_⟩
    have cas : ∀ n, rrsOk n = true → (n = .emp true ∧ rrsOf n = []) ∨ ∃ l : List Rr, n = .row 5 (l.map rC) ∧ rrsOf n = l ∧ l.length ≤ 1099511627776 := by
      intro n hn
      unfold rrsOk at hn
      split at hn
      · exact .inl ⟨rfl, rfl⟩
      · rename_i ys
        simp only [Bool.and_eq_true, decide_eq_true_eq] at hn
        exact .inr ⟨ys.map rOf, by rw [← rR_of hn.1], rfl, by simpa using hn.2⟩
      · cases hn
    generalize hm : findV ⟨id, b, [], rrsOf an, rrsOf ns, rrsOf ar⟩ = R
    unfold findV at hm
    simp only at hm
    rcases cas an ha with ⟨rfl, oa⟩ | ⟨la, rfl, oa, ba⟩ <;> rcases cas ns hns with ⟨rfl, on⟩ | ⟨ln, rfl, on, bn⟩ <;> rcases cas ar har with ⟨rfl, or⟩ | ⟨lr, rfl, or, br⟩
    · (conv => whnf)
      rw [oa] at hm
      try rw [on] at hm
      try rw [or] at hm
      have h1' : ¬ 0 ≤ idxOpt [] := by decide
      have h2' : ¬ 0 ≤ idxOpt [] := by decide
      rw [if_neg (not_or.2 ⟨h1', h2'⟩)] at hm
      rw [if_pos (show idxOpt [] < 0 by decide)] at hm
      subst hm
      (refine ⟨_, _, rfl, ?_, ⟨_, _, rfl, ?_, rfl⟩⟩) <;> (conv => whnf)
      · (refine ⟨_, _, rfl, ?_, ⟨_, _, rfl, ?_, ⟨_, _, rfl, ?_, ⟨_, _, rfl, ?_, ⟨_, _, rfl, ?_, rfl⟩⟩⟩⟩⟩) <;> (conv => whnf)
        all_goals first | rfl | exact ⟨rfl, rfl⟩
      · exact ⟨rfl, rfl⟩
    · (conv => whnf)
      refine obl har ?_
      rw [rrsOf_rC]
      (conv => whnf)
      rw [oa] at hm
      try rw [on] at hm
      try rw [or] at hm
      have h1' : ¬ 0 ≤ idxOpt [] := by decide
      have h2' : ¬ 0 ≤ idxOpt [] := by decide
      rw [if_neg (not_or.2 ⟨h1', h2'⟩)] at hm
      refine tst (fun h3 => ?_) (fun h3 => ?_)
      · have h3' : idxOpt lr < 0 := by simpa using h3
        rw [if_pos h3'] at hm
        subst hm
        (conv => whnf)
        (refine ⟨_, _, rfl, ?_, ⟨_, _, rfl, ?_, rfl⟩⟩) <;> (conv => whnf)
        · (refine ⟨_, _, rfl, ?_, ⟨_, _, rfl, ?_, ⟨_, _, rfl, ?_, ⟨_, _, rfl, ?_, ⟨_, _, rfl, ?_, rfl⟩⟩⟩⟩⟩) <;> (conv => whnf)
          all_goals first | rfl | exact ⟨rfl, rfl⟩
        · exact ⟨rfl, rfl⟩
      have h3' : ¬ idxOpt lr < 0 := by simpa using h3
      rw [if_neg h3'] at hm
      have hb := idxOpt_bound lr
      obtain ⟨i, hi⟩ := Int.eq_ofNat_of_zero_le (show 0 ≤ idxOpt lr by omega)
      have hil : i < lr.length := by omega
      have gd : List.getD (lr.map rC) (Int.toNat (i : Int)) [] = rC (lr[i]'hil) := by rw [Int.toNat_natCast]; exact rR_get hil
      have hd : (lr.drop i).headD ⟨[], 0, 0, 0, []⟩ = lr[i]'hil := by simp [List.headD_eq_head?_getD, List.head?_drop, List.getElem?_eq_getElem hil]
      have hsl : List.take (Int.toNat ((none : Option Int).getD ((lr.map rC).length : Int)) - Int.toNat ((some (IntKind.i64.wrap ((i : Int) + 1))).getD 0)) (List.drop (Int.toNat ((some (IntKind.i64.wrap ((i : Int) + 1))).getD 0)) (lr.map rC)) = (lr.drop (i + 1)).map rC := by
        show List.take (Int.toNat ((lr.map rC).length : Int) - Int.toNat (IntKind.i64.wrap ((i : Int) + 1))) (List.drop (Int.toNat (IntKind.i64.wrap ((i : Int) + 1))) (lr.map rC)) = (lr.drop (i + 1)).map rC
        rw [wr (by omega) (by omega), show Int.toNat ((i : Int) + 1) = i + 1 by omega, List.take_of_length_le (by simp), List.map_drop]
      rw [hi] at hm ⊢
      simp only [Int.ofNat_eq_natCast, Int.toNat_natCast] at hm ⊢
      rw [hd] at hm
      (conv => whnf)
      have w1 : IntKind.i64.wrap ((i : Int) + 1) = i + 1 := wr (by omega) (by omega)
      refine obl (by simp [idxOk]; omega) ?_
      rw [gd]
      (conv => whnf)
      refine obl (by simp [bndOk, w1]; omega) ?_
      rw [hsl]
      (conv => whnf)
      refine obl (by rw [isRr_rC]; simp; omega) ?_
      rw [rrsOf_rC]
      generalize hr : lr[i]'hil = r at *
      obtain ⟨rn, rk, rc, rt, rd⟩ := r
      simp only at hm
      (conv => whnf)
      refine tst (fun h4 => ?_) (fun h4 => ?_)
      · have h4' : 0 ≤ idxOpt (lr.drop (i + 1)) := by simpa using h4
        rw [if_pos (.inl h4')] at hm
        subst hm
        (conv => whnf)
        (refine ⟨_, _, rfl, ?_, ⟨_, _, rfl, ?_, rfl⟩⟩) <;> (conv => whnf)
        · (refine ⟨_, _, rfl, ?_, ⟨_, _, rfl, ?_, ⟨_, _, rfl, ?_, ⟨_, _, rfl, ?_, ⟨_, _, rfl, ?_, rfl⟩⟩⟩⟩⟩) <;> (conv => whnf)
          all_goals first | rfl | exact ⟨rfl, rfl⟩
        · exact ⟨rfl, rfl⟩
      have h4' : ¬ 0 ≤ idxOpt (lr.drop (i + 1)) := by simpa using h4
      (conv => whnf)
      refine tst (fun h5 => ?_) (fun h5 => ?_)
      · have h5' : rn ≠ [0] := by simpa using h5
        rw [if_pos (.inr (.inl h5'))] at hm
        subst hm
        (conv => whnf)
        (refine ⟨_, _, rfl, ?_, ⟨_, _, rfl, ?_, rfl⟩⟩) <;> (conv => whnf)
        · (refine ⟨_, _, rfl, ?_, ⟨_, _, rfl, ?_, ⟨_, _, rfl, ?_, ⟨_, _, rfl, ?_, ⟨_, _, rfl, ?_, rfl⟩⟩⟩⟩⟩) <;> (conv => whnf)
          all_goals first | rfl | exact ⟨rfl, rfl⟩
        · exact ⟨rfl, rfl⟩
      have h5' : rn = [0] := by simpa using h5
      (conv => whnf)
      refine tst (fun h6 => ?_) (fun h6 => ?_)
      · have h6' : ¬ (0 ≤ rc ∧ rc ≤ 65535) := by
          have : (bif false then true else !inV rc 65535) = true := h6
          simp only [inV, cond_false, Bool.not_eq_true', Bool.and_eq_false_imp, decide_eq_true_eq, decide_eq_false_iff_not] at this
          omega
        rw [if_pos (.inr (.inr (.inl h6')))] at hm
        subst hm
        (conv => whnf)
        (refine ⟨_, _, rfl, ?_, ⟨_, _, rfl, ?_, rfl⟩⟩) <;> (conv => whnf)
        · (refine ⟨_, _, rfl, ?_, ⟨_, _, rfl, ?_, ⟨_, _, rfl, ?_, ⟨_, _, rfl, ?_, ⟨_, _, rfl, ?_, rfl⟩⟩⟩⟩⟩) <;> (conv => whnf)
          all_goals first | rfl | exact ⟨rfl, rfl⟩
        · exact ⟨rfl, rfl⟩
      have h6' : 0 ≤ rc ∧ rc ≤ 65535 := by
        have : (bif false then true else !inV rc 65535) = false := h6
        simpa [inV] using this
      (conv => whnf)
      refine tst (fun h7 => ?_) (fun h7 => ?_)
      · have h7' : ¬ (0 ≤ rt ∧ rt ≤ 4294967295) := by
          have : (bif false then true else !inV rt 4294967295) = true := h7
          simp only [inV, cond_false, Bool.not_eq_true', Bool.and_eq_false_imp, decide_eq_true_eq, decide_eq_false_iff_not] at this
          omega
        rw [if_pos (.inr (.inr (.inr h7')))] at hm
        subst hm
        (conv => whnf)
        (refine ⟨_, _, rfl, ?_, ⟨_, _, rfl, ?_, rfl⟩⟩) <;> (conv => whnf)
        · (refine ⟨_, _, rfl, ?_, ⟨_, _, rfl, ?_, ⟨_, _, rfl, ?_, ⟨_, _, rfl, ?_, ⟨_, _, rfl, ?_, rfl⟩⟩⟩⟩⟩) <;> (conv => whnf)
          all_goals first | rfl | exact ⟨rfl, rfl⟩
        · exact ⟨rfl, rfl⟩
      have h7' : 0 ≤ rt ∧ rt ≤ 4294967295 := by
        have : (bif false then true else !inV rt 4294967295) = false := h7
        simpa [inV] using this
      rw [if_neg (by simp only [h5', h6', h7']; simp; omega)] at hm
      subst hm
      (conv => whnf)
      (refine ⟨_, _, rfl, ?_, ⟨_, _, rfl, ?_, rfl⟩⟩) <;> (conv => whnf)
      · (refine ⟨_, _, rfl, ?_, ⟨_, _, rfl, ?_, ⟨_, _, rfl, ?_, ⟨_, _, rfl, ?_, ⟨_, _, rfl, ?_, rfl⟩⟩⟩⟩⟩) <;> (conv => whnf)
        all_goals first | rfl | exact ⟨rfl, rfl⟩
      · exact ⟨rfl, rfl⟩
    · (conv => whnf)
      rw [oa] at hm
      try rw [on] at hm
      try rw [or] at hm
      have h1' : ¬ 0 ≤ idxOpt [] := by decide
      refine obl hns ?_
      rw [rrsOf_rC]
      (conv => whnf)
      refine tst (fun h2 => ?_) (fun h2 => ?_)
      · have h2' : 0 ≤ idxOpt ln := by simpa using h2
        rw [if_pos (.inr h2')] at hm
        subst hm
        (conv => whnf)
        (refine ⟨_, _, rfl, ?_, ⟨_, _, rfl, ?_, rfl⟩⟩) <;> (conv => whnf)
        · (refine ⟨_, _, rfl, ?_, ⟨_, _, rfl, ?_, ⟨_, _, rfl, ?_, ⟨_, _, rfl, ?_, ⟨_, _, rfl, ?_, rfl⟩⟩⟩⟩⟩) <;> (conv => whnf)
          all_goals first | rfl | exact ⟨rfl, rfl⟩
        · exact ⟨rfl, rfl⟩
      have h2' : ¬ 0 ≤ idxOpt ln := by simpa using h2
      (conv => whnf)
      rw [if_neg (not_or.2 ⟨h1', h2'⟩)] at hm
      rw [if_pos (show idxOpt [] < 0 by decide)] at hm
      subst hm
      (refine ⟨_, _, rfl, ?_, ⟨_, _, rfl, ?_, rfl⟩⟩) <;> (conv => whnf)
      · (refine ⟨_, _, rfl, ?_, ⟨_, _, rfl, ?_, ⟨_, _, rfl, ?_, ⟨_, _, rfl, ?_, ⟨_, _, rfl, ?_, rfl⟩⟩⟩⟩⟩) <;> (conv => whnf)
        all_goals first | rfl | exact ⟨rfl, rfl⟩
      · exact ⟨rfl, rfl⟩
    · (conv => whnf)
      refine obl har ?_
      rw [rrsOf_rC]
      (conv => whnf)
      rw [oa] at hm
      try rw [on] at hm
      try rw [or] at hm
      have h1' : ¬ 0 ≤ idxOpt [] := by decide
      refine obl hns ?_
      rw [rrsOf_rC]
      (conv => whnf)
      refine tst (fun h2 => ?_) (fun h2 => ?_)
      · have h2' : 0 ≤ idxOpt ln := by simpa using h2
        rw [if_pos (.inr h2')] at hm
        subst hm
        (conv => whnf)
        (refine ⟨_, _, rfl, ?_, ⟨_, _, rfl, ?_, rfl⟩⟩) <;> (conv => whnf)
        · (refine ⟨_, _, rfl, ?_, ⟨_, _, rfl, ?_, ⟨_, _, rfl, ?_, ⟨_, _, rfl, ?_, ⟨_, _, rfl, ?_, rfl⟩⟩⟩⟩⟩) <;> (conv => whnf)
          all_goals first | rfl | exact ⟨rfl, rfl⟩
        · exact ⟨rfl, rfl⟩
      have h2' : ¬ 0 ≤ idxOpt ln := by simpa using h2
      (conv => whnf)
      rw [if_neg (not_or.2 ⟨h1', h2'⟩)] at hm
      refine tst (fun h3 => ?_) (fun h3 => ?_)
      · have h3' : idxOpt lr < 0 := by simpa using h3
        rw [if_pos h3'] at hm
        subst hm
        (conv => whnf)
        (refine ⟨_, _, rfl, ?_, ⟨_, _, rfl, ?_, rfl⟩⟩) <;> (conv => whnf)
        · (refine ⟨_, _, rfl, ?_, ⟨_, _, rfl, ?_, ⟨_, _, rfl, ?_, ⟨_, _, rfl, ?_, ⟨_, _, rfl, ?_, rfl⟩⟩⟩⟩⟩) <;> (conv => whnf)
          all_goals first | rfl | exact ⟨rfl, rfl⟩
        · exact ⟨rfl, rfl⟩
      have h3' : ¬ idxOpt lr < 0 := by simpa using h3
      rw [if_neg h3'] at hm
      have hb := idxOpt_bound lr
      obtain ⟨i, hi⟩ := Int.eq_ofNat_of_zero_le (show 0 ≤ idxOpt lr by omega)
      have hil : i < lr.length := by omega
      have gd : List.getD (lr.map rC) (Int.toNat (i : Int)) [] = rC (lr[i]'hil) := by rw [Int.toNat_natCast]; exact rR_get hil
      have hd : (lr.drop i).headD ⟨[], 0, 0, 0, []⟩ = lr[i]'hil := by simp [List.headD_eq_head?_getD, List.head?_drop, List.getElem?_eq_getElem hil]
      have hsl : List.take (Int.toNat ((none : Option Int).getD ((lr.map rC).length : Int)) - Int.toNat ((some (IntKind.i64.wrap ((i : Int) + 1))).getD 0)) (List.drop (Int.toNat ((some (IntKind.i64.wrap ((i : Int) + 1))).getD 0)) (lr.map rC)) = (lr.drop (i + 1)).map rC := by
        show List.take (Int.toNat ((lr.map rC).length : Int) - Int.toNat (IntKind.i64.wrap ((i : Int) + 1))) (List.drop (Int.toNat (IntKind.i64.wrap ((i : Int) + 1))) (lr.map rC)) = (lr.drop (i + 1)).map rC
        rw [wr (by omega) (by omega), show Int.toNat ((i : Int) + 1) = i + 1 by omega, List.take_of_length_le (by simp), List.map_drop]
      rw [hi] at hm ⊢
      simp only [Int.ofNat_eq_natCast, Int.toNat_natCast] at hm ⊢
      rw [hd] at hm
      (conv => whnf)
      have w1 : IntKind.i64.wrap ((i : Int) + 1) = i + 1 := wr (by omega) (by omega)
      refine obl (by simp [idxOk]; omega) ?_
      rw [gd]
      (conv => whnf)
      refine obl (by simp [bndOk, w1]; omega) ?_
      rw [hsl]
      (conv => whnf)
      refine obl (by rw [isRr_rC]; simp; omega) ?_
      rw [rrsOf_rC]
      generalize hr : lr[i]'hil = r at *
      obtain ⟨rn, rk, rc, rt, rd⟩ := r
      simp only at hm
      (conv => whnf)
      refine tst (fun h4 => ?_) (fun h4 => ?_)
      · have h4' : 0 ≤ idxOpt (lr.drop (i + 1)) := by simpa using h4
        rw [if_pos (.inl h4')] at hm
        subst hm
        (conv => whnf)
        (refine ⟨_, _, rfl, ?_, ⟨_, _, rfl, ?_, rfl⟩⟩) <;> (conv => whnf)
        · (refine ⟨_, _, rfl, ?_, ⟨_, _, rfl, ?_, ⟨_, _, rfl, ?_, ⟨_, _, rfl, ?_, ⟨_, _, rfl, ?_, rfl⟩⟩⟩⟩⟩) <;> (conv => whnf)
          all_goals first | rfl | exact ⟨rfl, rfl⟩
        · exact ⟨rfl, rfl⟩
      have h4' : ¬ 0 ≤ idxOpt (lr.drop (i + 1)) := by simpa using h4
      (conv => whnf)
      refine tst (fun h5 => ?_) (fun h5 => ?_)
      · have h5' : rn ≠ [0] := by simpa using h5
        rw [if_pos (.inr (.inl h5'))] at hm
        subst hm
        (conv => whnf)
        (refine ⟨_, _, rfl, ?_, ⟨_, _, rfl, ?_, rfl⟩⟩) <;> (conv => whnf)
        · (refine ⟨_, _, rfl, ?_, ⟨_, _, rfl, ?_, ⟨_, _, rfl, ?_, ⟨_, _, rfl, ?_, ⟨_, _, rfl, ?_, rfl⟩⟩⟩⟩⟩) <;> (conv => whnf)
          all_goals first | rfl | exact ⟨rfl, rfl⟩
        · exact ⟨rfl, rfl⟩
      have h5' : rn = [0] := by simpa using h5
      (conv => whnf)
      refine tst (fun h6 => ?_) (fun h6 => ?_)
      · have h6' : ¬ (0 ≤ rc ∧ rc ≤ 65535) := by
          have : (bif false then true else !inV rc 65535) = true := h6
          simp only [inV, cond_false, Bool.not_eq_true', Bool.and_eq_false_imp, decide_eq_true_eq, decide_eq_false_iff_not] at this
          omega
        rw [if_pos (.inr (.inr (.inl h6')))] at hm
        subst hm
        (conv => whnf)
        (refine ⟨_, _, rfl, ?_, ⟨_, _, rfl, ?_, rfl⟩⟩) <;> (conv => whnf)
        · (refine ⟨_, _, rfl, ?_, ⟨_, _, rfl, ?_, ⟨_, _, rfl, ?_, ⟨_, _, rfl, ?_, ⟨_, _, rfl, ?_, rfl⟩⟩⟩⟩⟩) <;> (conv => whnf)
          all_goals first | rfl | exact ⟨rfl, rfl⟩
        · exact ⟨rfl, rfl⟩
      have h6' : 0 ≤ rc ∧ rc ≤ 65535 := by
        have : (bif false then true else !inV rc 65535) = false := h6
        simpa [inV] using this
      (conv => whnf)
      refine tst (fun h7 => ?_) (fun h7 => ?_)
      · have h7' : ¬ (0 ≤ rt ∧ rt ≤ 4294967295) := by
          have : (bif false then true else !inV rt 4294967295) = true := h7
          simp only [inV, cond_false, Bool.not_eq_true', Bool.and_eq_false_imp, decide_eq_true_eq, decide_eq_false_iff_not] at this
          omega
        rw [if_pos (.inr (.inr (.inr h7')))] at hm
        subst hm
        (conv => whnf)
        (refine ⟨_, _, rfl, ?_, ⟨_, _, rfl, ?_, rfl⟩⟩) <;> (conv => whnf)
        · (refine ⟨_, _, rfl, ?_, ⟨_, _, rfl, ?_, ⟨_, _, rfl, ?_, ⟨_, _, rfl, ?_, ⟨_, _, rfl, ?_, rfl⟩⟩⟩⟩⟩) <;> (conv => whnf)
          all_goals first | rfl | exact ⟨rfl, rfl⟩
        · exact ⟨rfl, rfl⟩
      have h7' : 0 ≤ rt ∧ rt ≤ 4294967295 := by
        have : (bif false then true else !inV rt 4294967295) = false := h7
        simpa [inV] using this
      rw [if_neg (by simp only [h5', h6', h7']; simp; omega)] at hm
      subst hm
      (conv => whnf)
      (refine ⟨_, _, rfl, ?_, ⟨_, _, rfl, ?_, rfl⟩⟩) <;> (conv => whnf)
      · (refine ⟨_, _, rfl, ?_, ⟨_, _, rfl, ?_, ⟨_, _, rfl, ?_, ⟨_, _, rfl, ?_, ⟨_, _, rfl, ?_, rfl⟩⟩⟩⟩⟩) <;> (conv => whnf)
        all_goals first | rfl | exact ⟨rfl, rfl⟩
      · exact ⟨rfl, rfl⟩
    · (conv => whnf)
      rw [oa] at hm
      try rw [on] at hm
      try rw [or] at hm
      refine obl ha ?_
      rw [rrsOf_rC]
      (conv => whnf)
      refine tst (fun h1 => ?_) (fun h1 => ?_)
      · have h1' : 0 ≤ idxOpt la := by simpa using h1
        rw [if_pos (.inl h1')] at hm
        subst hm
        (conv => whnf)
        (refine ⟨_, _, rfl, ?_, ⟨_, _, rfl, ?_, rfl⟩⟩) <;> (conv => whnf)
        · (refine ⟨_, _, rfl, ?_, ⟨_, _, rfl, ?_, ⟨_, _, rfl, ?_, ⟨_, _, rfl, ?_, ⟨_, _, rfl, ?_, rfl⟩⟩⟩⟩⟩) <;> (conv => whnf)
          all_goals first | rfl | exact ⟨rfl, rfl⟩
        · exact ⟨rfl, rfl⟩
      have h1' : ¬ 0 ≤ idxOpt la := by simpa using h1
      (conv => whnf)
      have h2' : ¬ 0 ≤ idxOpt [] := by decide
      rw [if_neg (not_or.2 ⟨h1', h2'⟩)] at hm
      rw [if_pos (show idxOpt [] < 0 by decide)] at hm
      subst hm
      (refine ⟨_, _, rfl, ?_, ⟨_, _, rfl, ?_, rfl⟩⟩) <;> (conv => whnf)
      · (refine ⟨_, _, rfl, ?_, ⟨_, _, rfl, ?_, ⟨_, _, rfl, ?_, ⟨_, _, rfl, ?_, ⟨_, _, rfl, ?_, rfl⟩⟩⟩⟩⟩) <;> (conv => whnf)
        all_goals first | rfl | exact ⟨rfl, rfl⟩
      · exact ⟨rfl, rfl⟩
    · (conv => whnf)
      refine obl har ?_
      rw [rrsOf_rC]
      (conv => whnf)
      rw [oa] at hm
      try rw [on] at hm
      try rw [or] at hm
      refine obl ha ?_
      rw [rrsOf_rC]
      (conv => whnf)
      refine tst (fun h1 => ?_) (fun h1 => ?_)
      · have h1' : 0 ≤ idxOpt la := by simpa using h1
        rw [if_pos (.inl h1')] at hm
        subst hm
        (conv => whnf)
        (refine ⟨_, _, rfl, ?_, ⟨_, _, rfl, ?_, rfl⟩⟩) <;> (conv => whnf)
        · (refine ⟨_, _, rfl, ?_, ⟨_, _, rfl, ?_, ⟨_, _, rfl, ?_, ⟨_, _, rfl, ?_, ⟨_, _, rfl, ?_, rfl⟩⟩⟩⟩⟩) <;> (conv => whnf)
          all_goals first | rfl | exact ⟨rfl, rfl⟩
        · exact ⟨rfl, rfl⟩
      have h1' : ¬ 0 ≤ idxOpt la := by simpa using h1
      (conv => whnf)
      have h2' : ¬ 0 ≤ idxOpt [] := by decide
      rw [if_neg (not_or.2 ⟨h1', h2'⟩)] at hm
      refine tst (fun h3 => ?_) (fun h3 => ?_)
      · have h3' : idxOpt lr < 0 := by simpa using h3
        rw [if_pos h3'] at hm
        subst hm
        (conv => whnf)
        (refine ⟨_, _, rfl, ?_, ⟨_, _, rfl, ?_, rfl⟩⟩) <;> (conv => whnf)
        · (refine ⟨_, _, rfl, ?_, ⟨_, _, rfl, ?_, ⟨_, _, rfl, ?_, ⟨_, _, rfl, ?_, ⟨_, _, rfl, ?_, rfl⟩⟩⟩⟩⟩) <;> (conv => whnf)
          all_goals first | rfl | exact ⟨rfl, rfl⟩
        · exact ⟨rfl, rfl⟩
      have h3' : ¬ idxOpt lr < 0 := by simpa using h3
      rw [if_neg h3'] at hm
      have hb := idxOpt_bound lr
      obtain ⟨i, hi⟩ := Int.eq_ofNat_of_zero_le (show 0 ≤ idxOpt lr by omega)
      have hil : i < lr.length := by omega
      have gd : List.getD (lr.map rC) (Int.toNat (i : Int)) [] = rC (lr[i]'hil) := by rw [Int.toNat_natCast]; exact rR_get hil
      have hd : (lr.drop i).headD ⟨[], 0, 0, 0, []⟩ = lr[i]'hil := by simp [List.headD_eq_head?_getD, List.head?_drop, List.getElem?_eq_getElem hil]
      have hsl : List.take (Int.toNat ((none : Option Int).getD ((lr.map rC).length : Int)) - Int.toNat ((some (IntKind.i64.wrap ((i : Int) + 1))).getD 0)) (List.drop (Int.toNat ((some (IntKind.i64.wrap ((i : Int) + 1))).getD 0)) (lr.map rC)) = (lr.drop (i + 1)).map rC := by
        show List.take (Int.toNat ((lr.map rC).length : Int) - Int.toNat (IntKind.i64.wrap ((i : Int) + 1))) (List.drop (Int.toNat (IntKind.i64.wrap ((i : Int) + 1))) (lr.map rC)) = (lr.drop (i + 1)).map rC
        rw [wr (by omega) (by omega), show Int.toNat ((i : Int) + 1) = i + 1 by omega, List.take_of_length_le (by simp), List.map_drop]
      rw [hi] at hm ⊢
      simp only [Int.ofNat_eq_natCast, Int.toNat_natCast] at hm ⊢
      rw [hd] at hm
      (conv => whnf)
      have w1 : IntKind.i64.wrap ((i : Int) + 1) = i + 1 := wr (by omega) (by omega)
      refine obl (by simp [idxOk]; omega) ?_
      rw [gd]
      (conv => whnf)
      refine obl (by simp [bndOk, w1]; omega) ?_
      rw [hsl]
      (conv => whnf)
      refine obl (by rw [isRr_rC]; simp; omega) ?_
      rw [rrsOf_rC]
      generalize hr : lr[i]'hil = r at *
      obtain ⟨rn, rk, rc, rt, rd⟩ := r
      simp only at hm
      (conv => whnf)
      refine tst (fun h4 => ?_) (fun h4 => ?_)
      · have h4' : 0 ≤ idxOpt (lr.drop (i + 1)) := by simpa using h4
        rw [if_pos (.inl h4')] at hm
        subst hm
        (conv => whnf)
        (refine ⟨_, _, rfl, ?_, ⟨_, _, rfl, ?_, rfl⟩⟩) <;> (conv => whnf)
        · (refine ⟨_, _, rfl, ?_, ⟨_, _, rfl, ?_, ⟨_, _, rfl, ?_, ⟨_, _, rfl, ?_, ⟨_, _, rfl, ?_, rfl⟩⟩⟩⟩⟩) <;> (conv => whnf)
          all_goals first | rfl | exact ⟨rfl, rfl⟩
        · exact ⟨rfl, rfl⟩
      have h4' : ¬ 0 ≤ idxOpt (lr.drop (i + 1)) := by simpa using h4
      (conv => whnf)
      refine tst (fun h5 => ?_) (fun h5 => ?_)
      · have h5' : rn ≠ [0] := by simpa using h5
        rw [if_pos (.inr (.inl h5'))] at hm
        subst hm
        (conv => whnf)
        (refine ⟨_, _, rfl, ?_, ⟨_, _, rfl, ?_, rfl⟩⟩) <;> (conv => whnf)
        · (refine ⟨_, _, rfl, ?_, ⟨_, _, rfl, ?_, ⟨_, _, rfl, ?_, ⟨_, _, rfl, ?_, ⟨_, _, rfl, ?_, rfl⟩⟩⟩⟩⟩) <;> (conv => whnf)
          all_goals first | rfl | exact ⟨rfl, rfl⟩
        · exact ⟨rfl, rfl⟩
      have h5' : rn = [0] := by simpa using h5
      (conv => whnf)
      refine tst (fun h6 => ?_) (fun h6 => ?_)
      · have h6' : ¬ (0 ≤ rc ∧ rc ≤ 65535) := by
          have : (bif false then true else !inV rc 65535) = true := h6
          simp only [inV, cond_false, Bool.not_eq_true', Bool.and_eq_false_imp, decide_eq_true_eq, decide_eq_false_iff_not] at this
          omega
        rw [if_pos (.inr (.inr (.inl h6')))] at hm
        subst hm
        (conv => whnf)
        (refine ⟨_, _, rfl, ?_, ⟨_, _, rfl, ?_, rfl⟩⟩) <;> (conv => whnf)
        · (refine ⟨_, _, rfl, ?_, ⟨_, _, rfl, ?_, ⟨_, _, rfl, ?_, ⟨_, _, rfl, ?_, ⟨_, _, rfl, ?_, rfl⟩⟩⟩⟩⟩) <;> (conv => whnf)
          all_goals first | rfl | exact ⟨rfl, rfl⟩
        · exact ⟨rfl, rfl⟩
      have h6' : 0 ≤ rc ∧ rc ≤ 65535 := by
        have : (bif false then true else !inV rc 65535) = false := h6
        simpa [inV] using this
      (conv => whnf)
      refine tst (fun h7 => ?_) (fun h7 => ?_)
      · have h7' : ¬ (0 ≤ rt ∧ rt ≤ 4294967295) := by
          have : (bif false then true else !inV rt 4294967295) = true := h7
          simp only [inV, cond_false, Bool.not_eq_true', Bool.and_eq_false_imp, decide_eq_true_eq, decide_eq_false_iff_not] at this
          omega
        rw [if_pos (.inr (.inr (.inr h7')))] at hm
        subst hm
        (conv => whnf)
        (refine ⟨_, _, rfl, ?_, ⟨_, _, rfl, ?_, rfl⟩⟩) <;> (conv => whnf)
        · (refine ⟨_, _, rfl, ?_, ⟨_, _, rfl, ?_, ⟨_, _, rfl, ?_, ⟨_, _, rfl, ?_, ⟨_, _, rfl, ?_, rfl⟩⟩⟩⟩⟩) <;> (conv => whnf)
          all_goals first | rfl | exact ⟨rfl, rfl⟩
        · exact ⟨rfl, rfl⟩
      have h7' : 0 ≤ rt ∧ rt ≤ 4294967295 := by
        have : (bif false then true else !inV rt 4294967295) = false := h7
        simpa [inV] using this
      rw [if_neg (by simp only [h5', h6', h7']; simp; omega)] at hm
      subst hm
      (conv => whnf)
      (refine ⟨_, _, rfl, ?_, ⟨_, _, rfl, ?_, rfl⟩⟩) <;> (conv => whnf)
      · (refine ⟨_, _, rfl, ?_, ⟨_, _, rfl, ?_, ⟨_, _, rfl, ?_, ⟨_, _, rfl, ?_, ⟨_, _, rfl, ?_, rfl⟩⟩⟩⟩⟩) <;> (conv => whnf)
        all_goals first | rfl | exact ⟨rfl, rfl⟩
      · exact ⟨rfl, rfl⟩
    · (conv => whnf)
      rw [oa] at hm
      try rw [on] at hm
      try rw [or] at hm
      refine obl ha ?_
      rw [rrsOf_rC]
      (conv => whnf)
      refine tst (fun h1 => ?_) (fun h1 => ?_)
      · have h1' : 0 ≤ idxOpt la := by simpa using h1
        rw [if_pos (.inl h1')] at hm
        subst hm
        (conv => whnf)
        (refine ⟨_, _, rfl, ?_, ⟨_, _, rfl, ?_, rfl⟩⟩) <;> (conv => whnf)
        · (refine ⟨_, _, rfl, ?_, ⟨_, _, rfl, ?_, ⟨_, _, rfl, ?_, ⟨_, _, rfl, ?_, ⟨_, _, rfl, ?_, rfl⟩⟩⟩⟩⟩) <;> (conv => whnf)
          all_goals first | rfl | exact ⟨rfl, rfl⟩
        · exact ⟨rfl, rfl⟩
      have h1' : ¬ 0 ≤ idxOpt la := by simpa using h1
      (conv => whnf)
      refine obl hns ?_
      rw [rrsOf_rC]
      (conv => whnf)
      refine tst (fun h2 => ?_) (fun h2 => ?_)
      · have h2' : 0 ≤ idxOpt ln := by simpa using h2
        rw [if_pos (.inr h2')] at hm
        subst hm
        (conv => whnf)
        (refine ⟨_, _, rfl, ?_, ⟨_, _, rfl, ?_, rfl⟩⟩) <;> (conv => whnf)
        · (refine ⟨_, _, rfl, ?_, ⟨_, _, rfl, ?_, ⟨_, _, rfl, ?_, ⟨_, _, rfl, ?_, ⟨_, _, rfl, ?_, rfl⟩⟩⟩⟩⟩) <;> (conv => whnf)
          all_goals first | rfl | exact ⟨rfl, rfl⟩
        · exact ⟨rfl, rfl⟩
      have h2' : ¬ 0 ≤ idxOpt ln := by simpa using h2
      (conv => whnf)
      rw [if_neg (not_or.2 ⟨h1', h2'⟩)] at hm
      rw [if_pos (show idxOpt [] < 0 by decide)] at hm
      subst hm
      (refine ⟨_, _, rfl, ?_, ⟨_, _, rfl, ?_, rfl⟩⟩) <;> (conv => whnf)
      · (refine ⟨_, _, rfl, ?_, ⟨_, _, rfl, ?_, ⟨_, _, rfl, ?_, ⟨_, _, rfl, ?_, ⟨_, _, rfl, ?_, rfl⟩⟩⟩⟩⟩) <;> (conv => whnf)
        all_goals first | rfl | exact ⟨rfl, rfl⟩
      · exact ⟨rfl, rfl⟩
    · (conv => whnf)
      refine obl har ?_
      rw [rrsOf_rC]
      (conv => whnf)
      rw [oa] at hm
      try rw [on] at hm
      try rw [or] at hm
      refine obl ha ?_
      rw [rrsOf_rC]
      (conv => whnf)
      refine tst (fun h1 => ?_) (fun h1 => ?_)
      · have h1' : 0 ≤ idxOpt la := by simpa using h1
        rw [if_pos (.inl h1')] at hm
        subst hm
        (conv => whnf)
        (refine ⟨_, _, rfl, ?_, ⟨_, _, rfl, ?_, rfl⟩⟩) <;> (conv => whnf)
        · (refine ⟨_, _, rfl, ?_, ⟨_, _, rfl, ?_, ⟨_, _, rfl, ?_, ⟨_, _, rfl, ?_, ⟨_, _, rfl, ?_, rfl⟩⟩⟩⟩⟩) <;> (conv => whnf)
          all_goals first | rfl | exact ⟨rfl, rfl⟩
        · exact ⟨rfl, rfl⟩
      have h1' : ¬ 0 ≤ idxOpt la := by simpa using h1
      (conv => whnf)
      refine obl hns ?_
      rw [rrsOf_rC]
      (conv => whnf)
      refine tst (fun h2 => ?_) (fun h2 => ?_)
      · have h2' : 0 ≤ idxOpt ln := by simpa using h2
        rw [if_pos (.inr h2')] at hm
        subst hm
        (conv => whnf)
        (refine ⟨_, _, rfl, ?_, ⟨_, _, rfl, ?_, rfl⟩⟩) <;> (conv => whnf)
        · (refine ⟨_, _, rfl, ?_, ⟨_, _, rfl, ?_, ⟨_, _, rfl, ?_, ⟨_, _, rfl, ?_, ⟨_, _, rfl, ?_, rfl⟩⟩⟩⟩⟩) <;> (conv => whnf)
          all_goals first | rfl | exact ⟨rfl, rfl⟩
        · exact ⟨rfl, rfl⟩
      have h2' : ¬ 0 ≤ idxOpt ln := by simpa using h2
      (conv => whnf)
      rw [if_neg (not_or.2 ⟨h1', h2'⟩)] at hm
      refine tst (fun h3 => ?_) (fun h3 => ?_)
      · have h3' : idxOpt lr < 0 := by simpa using h3
        rw [if_pos h3'] at hm
        subst hm
        (conv => whnf)
        (refine ⟨_, _, rfl, ?_, ⟨_, _, rfl, ?_, rfl⟩⟩) <;> (conv => whnf)
        · (refine ⟨_, _, rfl, ?_, ⟨_, _, rfl, ?_, ⟨_, _, rfl, ?_, ⟨_, _, rfl, ?_, ⟨_, _, rfl, ?_, rfl⟩⟩⟩⟩⟩) <;> (conv => whnf)
          all_goals first | rfl | exact ⟨rfl, rfl⟩
        · exact ⟨rfl, rfl⟩
      have h3' : ¬ idxOpt lr < 0 := by simpa using h3
      rw [if_neg h3'] at hm
      have hb := idxOpt_bound lr
      obtain ⟨i, hi⟩ := Int.eq_ofNat_of_zero_le (show 0 ≤ idxOpt lr by omega)
      have hil : i < lr.length := by omega
      have gd : List.getD (lr.map rC) (Int.toNat (i : Int)) [] = rC (lr[i]'hil) := by rw [Int.toNat_natCast]; exact rR_get hil
      have hd : (lr.drop i).headD ⟨[], 0, 0, 0, []⟩ = lr[i]'hil := by simp [List.headD_eq_head?_getD, List.head?_drop, List.getElem?_eq_getElem hil]
      have hsl : List.take (Int.toNat ((none : Option Int).getD ((lr.map rC).length : Int)) - Int.toNat ((some (IntKind.i64.wrap ((i : Int) + 1))).getD 0)) (List.drop (Int.toNat ((some (IntKind.i64.wrap ((i : Int) + 1))).getD 0)) (lr.map rC)) = (lr.drop (i + 1)).map rC := by
        show List.take (Int.toNat ((lr.map rC).length : Int) - Int.toNat (IntKind.i64.wrap ((i : Int) + 1))) (List.drop (Int.toNat (IntKind.i64.wrap ((i : Int) + 1))) (lr.map rC)) = (lr.drop (i + 1)).map rC
        rw [wr (by omega) (by omega), show Int.toNat ((i : Int) + 1) = i + 1 by omega, List.take_of_length_le (by simp), List.map_drop]
      rw [hi] at hm ⊢
      simp only [Int.ofNat_eq_natCast, Int.toNat_natCast] at hm ⊢
      rw [hd] at hm
      (conv => whnf)
      have w1 : IntKind.i64.wrap ((i : Int) + 1) = i + 1 := wr (by omega) (by omega)
      refine obl (by simp [idxOk]; omega) ?_
      rw [gd]
      (conv => whnf)
      refine obl (by simp [bndOk, w1]; omega) ?_
      rw [hsl]
      (conv => whnf)
      refine obl (by rw [isRr_rC]; simp; omega) ?_
      rw [rrsOf_rC]
      generalize hr : lr[i]'hil = r at *
      obtain ⟨rn, rk, rc, rt, rd⟩ := r
      simp only at hm
      (conv => whnf)
      refine tst (fun h4 => ?_) (fun h4 => ?_)
      · have h4' : 0 ≤ idxOpt (lr.drop (i + 1)) := by simpa using h4
        rw [if_pos (.inl h4')] at hm
        subst hm
        (conv => whnf)
        (refine ⟨_, _, rfl, ?_, ⟨_, _, rfl, ?_, rfl⟩⟩) <;> (conv => whnf)
        · (refine ⟨_, _, rfl, ?_, ⟨_, _, rfl, ?_, ⟨_, _, rfl, ?_, ⟨_, _, rfl, ?_, ⟨_, _, rfl, ?_, rfl⟩⟩⟩⟩⟩) <;> (conv => whnf)
          all_goals first | rfl | exact ⟨rfl, rfl⟩
        · exact ⟨rfl, rfl⟩
      have h4' : ¬ 0 ≤ idxOpt (lr.drop (i + 1)) := by simpa using h4
      (conv => whnf)
      refine tst (fun h5 => ?_) (fun h5 => ?_)
      · have h5' : rn ≠ [0] := by simpa using h5
        rw [if_pos (.inr (.inl h5'))] at hm
        subst hm
        (conv => whnf)
        (refine ⟨_, _, rfl, ?_, ⟨_, _, rfl, ?_, rfl⟩⟩) <;> (conv => whnf)
        · (refine ⟨_, _, rfl, ?_, ⟨_, _, rfl, ?_, ⟨_, _, rfl, ?_, ⟨_, _, rfl, ?_, ⟨_, _, rfl, ?_, rfl⟩⟩⟩⟩⟩) <;> (conv => whnf)
          all_goals first | rfl | exact ⟨rfl, rfl⟩
        · exact ⟨rfl, rfl⟩
      have h5' : rn = [0] := by simpa using h5
      (conv => whnf)
      refine tst (fun h6 => ?_) (fun h6 => ?_)
      · have h6' : ¬ (0 ≤ rc ∧ rc ≤ 65535) := by
          have : (bif false then true else !inV rc 65535) = true := h6
          simp only [inV, cond_false, Bool.not_eq_true', Bool.and_eq_false_imp, decide_eq_true_eq, decide_eq_false_iff_not] at this
          omega
        rw [if_pos (.inr (.inr (.inl h6')))] at hm
        subst hm
        (conv => whnf)
        (refine ⟨_, _, rfl, ?_, ⟨_, _, rfl, ?_, rfl⟩⟩) <;> (conv => whnf)
        · (refine ⟨_, _, rfl, ?_, ⟨_, _, rfl, ?_, ⟨_, _, rfl, ?_, ⟨_, _, rfl, ?_, ⟨_, _, rfl, ?_, rfl⟩⟩⟩⟩⟩) <;> (conv => whnf)
          all_goals first | rfl | exact ⟨rfl, rfl⟩
        · exact ⟨rfl, rfl⟩
      have h6' : 0 ≤ rc ∧ rc ≤ 65535 := by
        have : (bif false then true else !inV rc 65535) = false := h6
        simpa [inV] using this
      (conv => whnf)
      refine tst (fun h7 => ?_) (fun h7 => ?_)
      · have h7' : ¬ (0 ≤ rt ∧ rt ≤ 4294967295) := by
          have : (bif false then true else !inV rt 4294967295) = true := h7
          simp only [inV, cond_false, Bool.not_eq_true', Bool.and_eq_false_imp, decide_eq_true_eq, decide_eq_false_iff_not] at this
          omega
        rw [if_pos (.inr (.inr (.inr h7')))] at hm
        subst hm
        (conv => whnf)
        (refine ⟨_, _, rfl, ?_, ⟨_, _, rfl, ?_, rfl⟩⟩) <;> (conv => whnf)
        · (refine ⟨_, _, rfl, ?_, ⟨_, _, rfl, ?_, ⟨_, _, rfl, ?_, ⟨_, _, rfl, ?_, ⟨_, _, rfl, ?_, rfl⟩⟩⟩⟩⟩) <;> (conv => whnf)
          all_goals first | rfl | exact ⟨rfl, rfl⟩
        · exact ⟨rfl, rfl⟩
      have h7' : 0 ≤ rt ∧ rt ≤ 4294967295 := by
        have : (bif false then true else !inV rt 4294967295) = false := h7
        simpa [inV] using this
      rw [if_neg (by simp only [h5', h6', h7']; simp; omega)] at hm
      subst hm
      (conv => whnf)
      (refine ⟨_, _, rfl, ?_, ⟨_, _, rfl, ?_, rfl⟩⟩) <;> (conv => whnf)
      · (refine ⟨_, _, rfl, ?_, ⟨_, _, rfl, ?_, ⟨_, _, rfl, ?_, ⟨_, _, rfl, ?_, ⟨_, _, rfl, ?_, rfl⟩⟩⟩⟩⟩) <;> (conv => whnf)
        all_goals first | rfl | exact ⟨rfl, rfl⟩
      · exact ⟨rfl, rfl⟩
  · cases hg
end Go.Abs.R

namespace Go.Abs.R
open Go.Abs Go.Proofs
set_option maxRecDepth 100000
set_option linter.unusedVariables false
set_option linter.unusedSimpArgs false
/-- flag.may -/
def g61 : List AV → Option (Bool × AV)
  | [.int .i64 f, .int .i64 b] => some (true, .bool (mayV f b))
  | _ => none
theorem s61 : Spec (EY []) Tryz.f61 g61 := by
  intro args v hg
  unfold g61 at hg
  split at hg
  · rename_i f b
    simp only [Option.some.injEq, Prod.mk.injEq, true_and, decide_eq_true_eq, Bool.and_eq_true] at hg
    subst hg
    refine ⟨(by simp [Solids, Solid, Solidss]), ?_⟩
    (conv => whnf)
    refine tst (fun h1 => ?_) (fun h1 => ?_) <;> (conv => whnf)
    all_goals try (refine tst (fun h2 => ?_) (fun h2 => ?_) <;> (conv => whnf))
    all_goals try (refine tst (fun h3 => ?_) (fun h3 => ?_) <;> (conv => whnf))
    all_goals (simp_all [mayV]; try omega)
  · cases hg
def T12 : Tbl := [(61, g61)]
/-- flag.mask -/
def g63 : List AV → Option (Bool × AV)
  | [.agg [.int .i64 a, .int .i64 n]] => some (decide (0 ≤ n), .int .i64 (IntKind.i64.wrap (IntKind.i64.wrap (1 * 2 ^ (min n.toNat IntKind.i64.bits)) - 1)))
  | _ => none
theorem s63 : Spec (EY []) Tryz.f63 g63 := by
  intro args v hg
  unfold g63 at hg
  split at hg
  · rename_i a n
    simp only [Option.some.injEq, Prod.mk.injEq, true_and, decide_eq_true_eq, Bool.and_eq_true] at hg
    obtain ⟨hn, rfl⟩ := hg
    refine ⟨(by simp [Solids, Solid, Solidss]), ?_⟩
    (conv => whnf)
    refine obl (decide_eq_true hn) ?_
    (conv => whnf)
    exact ⟨rfl, rfl⟩
  · cases hg
def T12b : Tbl := [(61, g61), (63, g63)]
/-- flag.Of: which bits -/
def ofV (f b : Int) : Int := match f with
  | 0 => IntKind.i64.wrap ((BitVec.ofInt IntKind.i64.bits (b.fdiv (2 ^ (min (Int.toNat 15) IntKind.i64.bits))) &&& BitVec.ofInt IntKind.i64.bits 1).toNat)
  | 1 => IntKind.i64.wrap ((BitVec.ofInt IntKind.i64.bits (b.fdiv (2 ^ (min (Int.toNat 11) IntKind.i64.bits))) &&& BitVec.ofInt IntKind.i64.bits 15).toNat)
  | _ => 0
def g32 : List AV → Option (Bool × AV)
  | [.int .i64 0, .int .i64 b] => some (decide (0 ≤ b) && decide (b ≤ 65535), .int .i64 (ofV 0 b))
  | [.int .i64 1, .int .i64 b] => some (decide (0 ≤ b) && decide (b ≤ 65535), .int .i64 (ofV 1 b))
  | _ => none
theorem s32 : Spec (EY T12b) Tryz.f32 g32 := by
  intro args v hg
  unfold g32 at hg
  split at hg
  · rename_i b
    simp only [Option.some.injEq, Prod.mk.injEq, true_and, decide_eq_true_eq, Bool.and_eq_true] at hg
    obtain ⟨hb, rfl⟩ := hg
    refine ⟨(by simp [Solids, Solid, Solidss]), ?_⟩
    (conv => whnf)
    refine tst (fun h1 => ?_) (fun h1 => ?_) <;> (conv => whnf)
    · simp [mayV] at h1; omega
    · refine ⟨rfl, ?_⟩
      rw [show IntKind.i64.wrap (IntKind.i64.wrap (1 * 2 ^ min (Int.toNat 1) IntKind.i64.bits) - 1) = 1 by decide]
      rfl
  · rename_i b
    simp only [Option.some.injEq, Prod.mk.injEq, true_and, decide_eq_true_eq, Bool.and_eq_true] at hg
    obtain ⟨hb, rfl⟩ := hg
    refine ⟨(by simp [Solids, Solid, Solidss]), ?_⟩
    (conv => whnf)
    refine tst (fun h1 => ?_) (fun h1 => ?_) <;> (conv => whnf)
    · simp [mayV] at h1; omega
    · refine ⟨rfl, ?_⟩
      rw [show IntKind.i64.wrap (IntKind.i64.wrap (1 * 2 ^ min (Int.toNat 4) IntKind.i64.bits) - 1) = 15 by decide]
      rfl
  · cases hg
end Go.Abs.R

namespace Go.Abs.R
open Go.Abs Go.Proofs
set_option maxRecDepth 100000
set_option linter.unusedVariables false
set_option linter.unusedSimpArgs false
def T13 : Tbl := [(65, g65), (64, g64)]
theorem rrsV_ok (l : List Rr) (h : l.length ≤ 65535) : rrsOk (rrsV l) = true ∧ rrsOf (rrsV l) = l := by
  cases l with
  | nil => exact ⟨rfl, rfl⟩
  | cons r l =>
    refine ⟨?_, rrsOf_rC (r :: l)⟩
    show ((List.map rC (r :: l)).all isRr && decide ((List.map rC (r :: l)).length ≤ 1099511627776)) = true
    rw [isRr_rC, List.length_map]; simp at h ⊢; omega
theorem findV_qs (id b : Int) (q q' : List Qn) (an ns ar : List Rr) : findV ⟨id, b, q, an, ns, ar⟩ = findV ⟨id, b, q', an, ns, ar⟩ := rfl
theorem solidB_rows {sz : Nat} {xs : List (List AV)} (h : ∀ x ∈ xs, solidsB x = true) : solidB (.row sz xs) = true := by
  unfold solidB
  induction xs with
  | nil => rfl
  | cons x xs ih => unfold solidssB; rw [h x (by simp), ih fun y hy => h y (by simp [hy])]; rfl
theorem solidB_qsV (l : List Qn) : solidB (qsV l) = true := by
  cases l with
  | nil => rfl
  | cons q l => exact solidB_rows fun x hx => by simp only [List.mem_map] at hx; obtain ⟨y, _, rfl⟩ := hx; rfl
/-- reply.asked -/
def g33 : List AV → Option (Bool × AV)
  | [.str s] => some (decide (s.length ≤ 1099511627776), .tup [.agg [.str (askV s).1.name, .int .i64 (askV s).1.kind, .int .i64 (askV s).1.cls],
      .agg [.bool (askV s).2.1.has, .int .i64 (askV s).2.1.size, .int .i64 (askV s).2.1.ext, .int .i64 (askV s).2.1.vers, .bool (askV s).2.1.dO], .bool (askV s).2.2])
  | _ => none
set_option maxHeartbeats 4000000 in
theorem s33 : Spec (EY T13) Tryz.f33 g33 := by
  intro args v hg
  unfold g33 at hg
  split at hg
  · rename_i s
    simp only [Option.some.injEq, Prod.mk.injEq, true_and, decide_eq_true_eq, Bool.and_eq_true] at hg
    obtain ⟨hs, rfl⟩ := hg
    refine ⟨(by simp [Solids, Solid, Solidss]), ?_⟩
    (conv => whnf)
    refine obl (decide_eq_true hs) ?_
    have hl := decM_len s
    generalize hr : askV s = r
    unfold askV at hr
    generalize hM : decM s = m at *
    generalize hE : decE s = e at *
    obtain ⟨id, b, qs, an, ns, ar⟩ := m
    simp only at hl hr
    obtain ⟨oa, ra⟩ := rrsV_ok an hl.1
    obtain ⟨on, rn⟩ := rrsV_ok ns hl.2.1
    obtain ⟨or, rr⟩ := rrsV_ok ar hl.2.2
    have hf : findV ⟨id, b, qs, an, ns, ar⟩ = findV ⟨id, b, [], rrsOf (rrsV an), rrsOf (rrsV ns), rrsOf (rrsV ar)⟩ := by rw [ra, rn, rr]; rfl
    rw [hf] at hr
    (conv => whnf)
    refine tst (fun h1 => ?_) (fun h1 => ?_)
    · have he : e ≠ 0 := by simpa using h1
      have hr' : r = (⟨[], 0, 0⟩, ⟨false, 0, 0, 0, false⟩, false) := by
        rw [← hr]; split
        · rw [if_neg (by simp [he])]
        · rfl
      subst hr'
      (conv => whnf)
      (refine ⟨_, _, rfl, ?_, ⟨_, _, rfl, ?_, ⟨_, _, rfl, ?_, rfl⟩⟩⟩) <;> (conv => whnf)
      · (refine ⟨_, _, rfl, ?_, ⟨_, _, rfl, ?_, ⟨_, _, rfl, ?_, rfl⟩⟩⟩) <;> (conv => whnf)
        all_goals first | rfl | exact ⟨rfl, rfl⟩
      · (refine ⟨_, _, rfl, ?_, ⟨_, _, rfl, ?_, ⟨_, _, rfl, ?_, ⟨_, _, rfl, ?_, ⟨_, _, rfl, ?_, rfl⟩⟩⟩⟩⟩) <;> (conv => whnf)
        all_goals first | rfl | exact ⟨rfl, rfl⟩
    have he : e = 0 := by simpa using h1
    subst he
    match qs, hr with
    | [], hr =>
      subst hr
      (conv => whnf)
      (refine ⟨_, _, rfl, ?_, ⟨_, _, rfl, ?_, ⟨_, _, rfl, ?_, rfl⟩⟩⟩) <;> (conv => whnf)
      · (refine ⟨_, _, rfl, ?_, ⟨_, _, rfl, ?_, ⟨_, _, rfl, ?_, rfl⟩⟩⟩) <;> (conv => whnf)
        all_goals first | rfl | exact ⟨rfl, rfl⟩
      · (refine ⟨_, _, rfl, ?_, ⟨_, _, rfl, ?_, ⟨_, _, rfl, ?_, ⟨_, _, rfl, ?_, ⟨_, _, rfl, ?_, rfl⟩⟩⟩⟩⟩) <;> (conv => whnf)
        all_goals first | rfl | exact ⟨rfl, rfl⟩
    | q1 :: q2 :: l, hr =>
      subst hr
      (conv => whnf)
      (refine ⟨_, _, rfl, ?_, ⟨_, _, rfl, ?_, ⟨_, _, rfl, ?_, rfl⟩⟩⟩) <;> (conv => whnf)
      · (refine ⟨_, _, rfl, ?_, ⟨_, _, rfl, ?_, ⟨_, _, rfl, ?_, rfl⟩⟩⟩) <;> (conv => whnf)
        all_goals first | rfl | exact ⟨rfl, rfl⟩
      · (refine ⟨_, _, rfl, ?_, ⟨_, _, rfl, ?_, ⟨_, _, rfl, ?_, ⟨_, _, rfl, ?_, ⟨_, _, rfl, ?_, rfl⟩⟩⟩⟩⟩) <;> (conv => whnf)
        all_goals first | rfl | exact ⟨rfl, rfl⟩
    | [q], hr =>
      (conv => whnf)
      refine obl ?_ ?_
      · show (solidB (qsV [q]) && rrsOk (rrsV an) && rrsOk (rrsV ns) && rrsOk (rrsV ar)) = true
        rw [oa, on, or]; rfl
      simp only [true_and] at hr
      (conv => whnf)
      refine tst (fun h2 => ?_) (fun h2 => ?_)
      · have h2' : (findV ⟨id, b, [], rrsOf (rrsV an), rrsOf (rrsV ns), rrsOf (rrsV ar)⟩).2 ≠ 0 := by
          have : ((findV ⟨id, b, [], rrsOf (rrsV an), rrsOf (rrsV ns), rrsOf (rrsV ar)⟩).2 != 0) = true := h2
          simpa using this
        rw [if_neg h2'] at hr
        subst hr
        (conv => whnf)
        (refine ⟨_, _, rfl, ?_, ⟨_, _, rfl, ?_, ⟨_, _, rfl, ?_, rfl⟩⟩⟩) <;> (conv => whnf)
        · (refine ⟨_, _, rfl, ?_, ⟨_, _, rfl, ?_, ⟨_, _, rfl, ?_, rfl⟩⟩⟩) <;> (conv => whnf)
          all_goals first | rfl | exact ⟨rfl, rfl⟩
        · (refine ⟨_, _, rfl, ?_, ⟨_, _, rfl, ?_, ⟨_, _, rfl, ?_, ⟨_, _, rfl, ?_, ⟨_, _, rfl, ?_, rfl⟩⟩⟩⟩⟩) <;> (conv => whnf)
          all_goals first | rfl | exact ⟨rfl, rfl⟩
      · have h2' : (findV ⟨id, b, [], rrsOf (rrsV an), rrsOf (rrsV ns), rrsOf (rrsV ar)⟩).2 = 0 := by
          have : ((findV ⟨id, b, [], rrsOf (rrsV an), rrsOf (rrsV ns), rrsOf (rrsV ar)⟩).2 != 0) = false := h2
          simpa using this
        rw [if_pos h2'] at hr
        subst hr
        (conv => whnf)
        (refine ⟨_, _, rfl, ?_, ⟨_, _, rfl, ?_, ⟨_, _, rfl, ?_, rfl⟩⟩⟩) <;> (conv => whnf)
        · (refine ⟨_, _, rfl, ?_, ⟨_, _, rfl, ?_, ⟨_, _, rfl, ?_, rfl⟩⟩⟩) <;> (conv => whnf)
          all_goals first | rfl | exact ⟨rfl, rfl⟩
        · (refine ⟨_, _, rfl, ?_, ⟨_, _, rfl, ?_, ⟨_, _, rfl, ?_, ⟨_, _, rfl, ?_, ⟨_, _, rfl, ?_, rfl⟩⟩⟩⟩⟩) <;> (conv => whnf)
          all_goals first | rfl | exact ⟨rfl, rfl⟩
  · cases hg
end Go.Abs.R
