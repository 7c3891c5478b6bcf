import Derived.Test.YtaifmmemfmapkaaGreatTb
namespace Go.Abs.R
open Go.Abs Go.Proofs
set_option maxRecDepth 100000
set_option linter.unusedVariables false
set_option linter.unusedSimpArgs false
def isQn : List AV → Bool
  | [.str _, .int .i64 _, .int .i64 _] => true
  | _ => false
def qOf (y : List AV) : Qn := ⟨(y.getD 0 .undef).toS, (y.getD 1 .undef).toI, (y.getD 2 .undef).toI⟩
theorem qR_of : ∀ {ys : List (List AV)}, ys.all isQn = true → ys = (ys.map qOf).map qC
  | [], _ => rfl
  | y :: ys, h => by
    simp only [List.all_cons, Bool.and_eq_true] at h
    obtain ⟨h1, h2⟩ := h
    unfold isQn at h1
    split at h1
    · rw [List.map_cons, List.map_cons, ← qR_of h2]; rfl
    · cases h1
theorem qR_get {l : List Qn} {i : Nat} (h : i < l.length) : List.getD (l.map qC) i [] = qC (l[i]'h) := by
  simp [List.getD_eq_getElem?_getD, List.getElem?_eq_getElem h]
def okR (r : Rr) : Bool := decide (r.data.length ≤ 1099511627776)
def okQ (r : Qn) : Bool := true
def badR (r : Rr) : Bool := !rrB r
def badQ (r : Qn) : Bool := !qnB r
def T19R : Tbl := [(108, g108)]
def T19Q : Tbl := [(110, g110)]
/-- slices.IndexFunc of records -/
def g99r : List AV → Option (Bool × AV)
  | [.emp true, .fn (.func 108) [] []] => some (true, .int .i64 (-1))
  | [.row 5 ys, .fn (.func 108) [] []] => some (ys.all isRr && decide (ys.length ≤ 1099511627776) && (ys.map rOf).all okR, .int .i64 (idxP badR (ys.map rOf)))
  | _ => none
theorem s99r : Spec (EY T19R) Tryz.f99 g99r := by
  intro args v hg
  unfold g99r at hg
  split at hg
  · simp only [Option.some.injEq, Prod.mk.injEq, true_and, decide_eq_true_eq, Bool.and_eq_true] at hg
    subst hg
    refine ⟨(by simp [Solids, Solid, Solidss]), ?_⟩
    (conv => whnf)
    refine loopq (X := Nat) (fun _ => True) (fun i => [(8, .int .i64 0), (7, .int .i64 0)]) (fun _ => []) (fun i => 0) ?_ 0 trivial ⟨[], rfl, rfl, ⟨⟨rfl, trivial⟩, ⟨rfl, trivial⟩, trivial⟩, trivial⟩
    intro i hi J hn hx
    (conv => whnf)
    refine hx _ _ _ (by intro e; cases e) ?_
    (conv => whnf)
    exact ⟨rfl, rfl⟩
  · rename_i ys
    simp only [Option.some.injEq, Prod.mk.injEq, true_and, decide_eq_true_eq, Bool.and_eq_true] at hg
    obtain ⟨hn, rfl⟩ := hg
    have hy := rR_of hn.1.1
    generalize ys.map rOf = l at *
    subst hy
    have hl : l.length ≤ 1099511627776 := by simpa using hn.1.2
    have ho := hn.2
    refine ⟨⟨solid_rR _, ⟨trivial, trivial⟩, trivial⟩, ?_⟩
    (conv => whnf)
    refine loopq (X := Nat) (fun i => i ≤ l.length ∧ ∀ j (hj : j < l.length), j < i → badR (l[j]'hj) = false) (fun i => [(8, .int .i64 i), (7, .int .i64 l.length), (0, .row 5 (l.map rC)), (1, .fn (.func 108) [] [])]) (fun _ => []) (fun i => l.length - i) ?_ 0 ⟨Nat.zero_le _, fun j hj h => by omega⟩
      ⟨[], rfl, rfl, ⟨⟨rfl, trivial⟩, ⟨?_, trivial⟩, ⟨rfl, solid_rR _⟩, ⟨_, _, rfl, rfl, rfl⟩, trivial⟩, trivial⟩
    · intro i ⟨hi, hk⟩ J hn hx
      (conv => whnf)
      refine tst (fun h3 => ?_) (fun h3 => ?_)
      · have hil : i < l.length := by simpa using h3
        have gd : List.getD (l.map rC) (Int.toNat (i : Int)) [] = rC (l[i]'hil) := by rw [Int.toNat_natCast]; exact rR_get hil
        have hb : okR (l[i]'hil) = true := List.all_eq_true.1 ho _ (List.getElem_mem hil)
        (conv => whnf)
        refine obl (by simp [idxOk]; omega) ?_
        rw [gd]
        (conv => whnf)
        refine obl hb ?_
        (conv => whnf)
        refine tst (fun h4 => ?_) (fun h4 => ?_)
        · have h41 : badR (l[i]'hil) = true := h4
          (conv => whnf)
          refine hx _ _ _ (by intro e; cases e) ?_
          (conv => whnf)
          exact ⟨rfl, (idxP_at badR l i hil hk h41).symm⟩
        · have h41 : badR (l[i]'hil) = false := h4
          (conv => whnf)
          refine hn (i + 1) _ _ ⟨by omega, fun j hj hlt => ?_⟩ (by omega) ⟨[], rfl, rfl, ⟨⟨?_, trivial⟩, ⟨rfl, trivial⟩, ⟨rfl, solid_rR _⟩, ⟨_, _, rfl, rfl, rfl⟩, trivial⟩, trivial⟩
          · by_cases hji : j = i
            · subst hji; exact h41
            · exact hk j hj (by omega)
          · show AV.int .i64 (IntKind.i64.wrap ((i : Int) + 1)) = _
            rw [wr (by omega) (by omega)]; rfl
      · have hil : ¬ i < l.length := by simpa using h3
        (conv => whnf)
        refine hx _ _ _ (by intro e; cases e) ?_
        (conv => whnf)
        exact ⟨rfl, (idxP_none badR l fun j hj => hk j hj (by omega)).symm⟩
    · show AV.int .i64 ((l.map rC).length : Int) = _
      rw [List.length_map]
  · cases hg
def T99r : Tbl := [(99, g99r)]
/-- slices.ContainsFunc of records -/
def g101r : List AV → Option (Bool × AV)
  | [.emp true, .fn (.func 108) [] []] => some (true, .bool false)
  | [.row 5 ys, .fn (.func 108) [] []] => some (ys.all isRr && decide (ys.length ≤ 1099511627776) && (ys.map rOf).all okR, .bool ((ys.map rOf).any badR))
  | _ => none
theorem s101r : Spec (EY T99r) Tryz.f101 g101r := by
  intro args v hg
  unfold g101r at hg
  split at hg
  · simp only [Option.some.injEq, Prod.mk.injEq, true_and, decide_eq_true_eq, Bool.and_eq_true] at hg
    subst hg
    refine ⟨(by simp [Solids, Solid, Solidss]), ?_⟩
    (conv => whnf)
    rfl
  · rename_i ys
    simp only [Option.some.injEq, Prod.mk.injEq, true_and, decide_eq_true_eq, Bool.and_eq_true] at hg
    obtain ⟨hn, rfl⟩ := hg
    have hs : Solidss ys := by rw [rR_of hn.1.1]; exact solid_rR _
    refine ⟨⟨hs, ⟨trivial, trivial⟩, trivial⟩, ?_⟩
    (conv => whnf)
    refine obl (by simp only [Bool.and_eq_true, decide_eq_true_eq]; exact hn) ?_
    (conv => whnf)
    have h := idxP_neg badR (ys.map rOf)
    show decide (0 ≤ idxP badR (ys.map rOf)) = (ys.map rOf).any badR
    cases hc : (ys.map rOf).any badR <;> simp [hc] at h ⊢ <;> omega
  · cases hg
/-- slices.IndexFunc of questions -/
def g131 : List AV → Option (Bool × AV)
  | [.emp true, .fn (.func 110) [] []] => some (true, .int .i64 (-1))
  | [.row 3 ys, .fn (.func 110) [] []] => some (ys.all isQn && decide (ys.length ≤ 1099511627776) && (ys.map qOf).all okQ, .int .i64 (idxP badQ (ys.map qOf)))
  | _ => none
theorem s131 : Spec (EY T19Q) Tryz.f131 g131 := by
  intro args v hg
  unfold g131 at hg
  split at hg
  · simp only [Option.some.injEq, Prod.mk.injEq, true_and, decide_eq_true_eq, Bool.and_eq_true] at hg
    subst hg
    refine ⟨(by simp [Solids, Solid, Solidss]), ?_⟩
    (conv => whnf)
    refine loopq (X := Nat) (fun _ => True) (fun i => [(8, .int .i64 0), (7, .int .i64 0)]) (fun _ => []) (fun i => 0) ?_ 0 trivial ⟨[], rfl, rfl, ⟨⟨rfl, trivial⟩, ⟨rfl, trivial⟩, trivial⟩, trivial⟩
    intro i hi J hn hx
    (conv => whnf)
    refine hx _ _ _ (by intro e; cases e) ?_
    (conv => whnf)
    exact ⟨rfl, rfl⟩
  · rename_i ys
    simp only [Option.some.injEq, Prod.mk.injEq, true_and, decide_eq_true_eq, Bool.and_eq_true] at hg
    obtain ⟨hn, rfl⟩ := hg
    have hy := qR_of hn.1.1
    generalize ys.map qOf = l at *
    subst hy
    have hl : l.length ≤ 1099511627776 := by simpa using hn.1.2
    have ho := hn.2
    refine ⟨⟨solid_qR _, ⟨trivial, trivial⟩, trivial⟩, ?_⟩
    (conv => whnf)
    refine loopq (X := Nat) (fun i => i ≤ l.length ∧ ∀ j (hj : j < l.length), j < i → badQ (l[j]'hj) = false) (fun i => [(8, .int .i64 i), (7, .int .i64 l.length), (0, .row 3 (l.map qC)), (1, .fn (.func 110) [] [])]) (fun _ => []) (fun i => l.length - i) ?_ 0 ⟨Nat.zero_le _, fun j hj h => by omega⟩
      ⟨[], rfl, rfl, ⟨⟨rfl, trivial⟩, ⟨?_, trivial⟩, ⟨rfl, solid_qR _⟩, ⟨_, _, rfl, rfl, rfl⟩, trivial⟩, trivial⟩
    · intro i ⟨hi, hk⟩ J hn hx
      (conv => whnf)
      refine tst (fun h3 => ?_) (fun h3 => ?_)
      · have hil : i < l.length := by simpa using h3
        have gd : List.getD (l.map qC) (Int.toNat (i : Int)) [] = qC (l[i]'hil) := by rw [Int.toNat_natCast]; exact qR_get hil
        have hb : okQ (l[i]'hil) = true := List.all_eq_true.1 ho _ (List.getElem_mem hil)
        (conv => whnf)
        refine obl (by simp [idxOk]; omega) ?_
        rw [gd]
        (conv => whnf)
        skip
        refine tst (fun h4 => ?_) (fun h4 => ?_)
        · have h41 : badQ (l[i]'hil) = true := h4
          (conv => whnf)
          refine hx _ _ _ (by intro e; cases e) ?_
          (conv => whnf)
          exact ⟨rfl, (idxP_at badQ l i hil hk h41).symm⟩
        · have h41 : badQ (l[i]'hil) = false := h4
          (conv => whnf)
          refine hn (i + 1) _ _ ⟨by omega, fun j hj hlt => ?_⟩ (by omega) ⟨[], rfl, rfl, ⟨⟨?_, trivial⟩, ⟨rfl, trivial⟩, ⟨rfl, solid_qR _⟩, ⟨_, _, rfl, rfl, rfl⟩, trivial⟩, trivial⟩
          · by_cases hji : j = i
            · subst hji; exact h41
            · exact hk j hj (by omega)
          · show AV.int .i64 (IntKind.i64.wrap ((i : Int) + 1)) = _
            rw [wr (by omega) (by omega)]; rfl
      · have hil : ¬ i < l.length := by simpa using h3
        (conv => whnf)
        refine hx _ _ _ (by intro e; cases e) ?_
        (conv => whnf)
        exact ⟨rfl, (idxP_none badQ l fun j hj => hk j hj (by omega)).symm⟩
    · show AV.int .i64 ((l.map qC).length : Int) = _
      rw [List.length_map]
  · cases hg
def T131 : Tbl := [(131, g131)]
/-- slices.ContainsFunc of questions -/
def g111 : List AV → Option (Bool × AV)
  | [.emp true, .fn (.func 110) [] []] => some (true, .bool false)
  | [.row 3 ys, .fn (.func 110) [] []] => some (ys.all isQn && decide (ys.length ≤ 1099511627776) && (ys.map qOf).all okQ, .bool ((ys.map qOf).any badQ))
  | _ => none
theorem s111 : Spec (EY T131) Tryz.f111 g111 := by
  intro args v hg
  unfold g111 at hg
  split at hg
  · simp only [Option.some.injEq, Prod.mk.injEq, true_and, decide_eq_true_eq, Bool.and_eq_true] at hg
    subst hg
    refine ⟨(by simp [Solids, Solid, Solidss]), ?_⟩
    (conv => whnf)
    rfl
  · rename_i ys
    simp only [Option.some.injEq, Prod.mk.injEq, true_and, decide_eq_true_eq, Bool.and_eq_true] at hg
    obtain ⟨hn, rfl⟩ := hg
    have hs : Solidss ys := by rw [qR_of hn.1.1]; exact solid_qR _
    refine ⟨⟨hs, ⟨trivial, trivial⟩, trivial⟩, ?_⟩
    (conv => whnf)
    refine obl (by simp only [Bool.and_eq_true, decide_eq_true_eq]; exact hn) ?_
    (conv => whnf)
    have h := idxP_neg badQ (ys.map qOf)
    show decide (0 ≤ idxP badQ (ys.map qOf)) = (ys.map qOf).any badQ
    cases hc : (ys.map qOf).any badQ <;> simp [hc] at h ⊢ <;> omega
  · cases hg
end Go.Abs.R
