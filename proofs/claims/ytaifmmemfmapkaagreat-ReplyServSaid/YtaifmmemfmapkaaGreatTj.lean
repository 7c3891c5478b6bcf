import Derived.Test.YtaifmmemfmapkaaGreatTi
namespace Go.Abs.R
open Go.Abs Go.Proofs
set_option maxRecDepth 100000
set_option linter.unusedVariables false
set_option linter.unusedSimpArgs false
/-- data of a set: none, empty or so many strings -/
def dsOf : AV → List Bs
  | .row 1 ys => ys.map fun y => (y.getD 0 .undef).toS
  | _ => []
def isS : List AV → Bool
  | [.str _] => true
  | _ => false
def dsOk : AV → Bool
  | .emp _ => true
  | .row 1 ys => ys.all isS && decide (ys.length ≤ 9223372036854775807)
  | _ => false
def sC (s : Bs) : List AV := [.str s]
theorem sR_of : ∀ {ys : List (List AV)}, ys.all isS = true → ys = (ys.map fun y => (y.getD 0 .undef).toS).map sC
  | [], _ => rfl
  | y :: ys, h => by
    simp only [List.all_cons, Bool.and_eq_true] at h
    obtain ⟨h1, h2⟩ := h
    unfold isS at h1
    split at h1
    · rw [List.map_cons, List.map_cons, ← sR_of h2]; rfl
    · cases h1
theorem solid_sC : ∀ (l : List Bs), Solidss (l.map sC)
  | [] => trivial
  | s :: l => ⟨⟨trivial, trivial⟩, solid_sC l⟩
theorem sC_get {l : List Bs} {i : Nat} (h : i < l.length) : List.getD (l.map sC) i [] = sC (l[i]'h) := by
  simp [List.getD_eq_getElem?_getD, List.getElem?_eq_getElem h]
theorem ds_cs {a : AV} (h : dsOk a = true) : (∃ b, a = .emp b ∧ dsOf a = []) ∨ ∃ l, a = .row 1 (l.map sC) ∧ dsOf a = l ∧ l.length ≤ 9223372036854775807 := by
  unfold dsOk at h
  split at h
  · exact .inl ⟨_, rfl, rfl⟩
  · rename_i ys
    simp only [Bool.and_eq_true, decide_eq_true_eq] at h
    have hy := sR_of h.1
    refine .inr ⟨_, congrArg (AV.row 1) hy, rfl, by rw [List.length_map]; exact h.2⟩
  · cases h
theorem solid_ds {a : AV} (h : dsOk a = true) : Solid a := by
  rcases ds_cs h with ⟨b, rfl, _⟩ | ⟨l, rfl, _, _⟩
  · trivial
  · exact solid_sC l
/-- ref10.Small -/
def sm10 (nm : Bs) (l : List Bs) : Bool := (l.all fun s => decide (s.length ≤ 2000)) && decide (l.length ≤ 60) && decide (nm.length ≤ 300)
def g34 : List AV → Option (Bool × AV)
  | [.agg [.str nm, .int .i64 k, .int .i64 c, ds, .int .i64 x]] => some (dsOk ds, .bool (sm10 nm (dsOf ds)))
  | _ => none
theorem all_first {α : Type} {p : α → Bool} {l : List α} {i : Nat} (h : i < l.length) (hp : p (l[i]'h) = false) : l.all p = false := by
  apply Bool.eq_false_iff.2
  intro e
  have := List.all_eq_true.1 e _ (List.getElem_mem h)
  rw [hp] at this; cases this
theorem all_upto {α : Type} {p : α → Bool} {l : List α} (h : ∀ j (hj : j < l.length), p (l[j]'hj) = true) : l.all p = true := by
  apply List.all_eq_true.2
  intro x hx
  obtain ⟨j, hj, rfl⟩ := List.getElem_of_mem hx
  exact h j hj
theorem s34 : Spec (EY []) Tryz.f34 g34 := by
  intro args v hg
  unfold g34 at hg
  split at hg
  · rename_i nm k c ds x
    simp only [Option.some.injEq, Prod.mk.injEq, true_and, decide_eq_true_eq, Bool.and_eq_true] at hg
    obtain ⟨hd, rfl⟩ := hg
    have sd := solid_ds hd
    refine ⟨⟨⟨trivial, trivial, trivial, sd, trivial, trivial⟩, trivial⟩, ?_⟩
    rcases ds_cs hd with ⟨b, rfl, e⟩ | ⟨l, rfl, e, hl⟩
    · rw [e]
      (conv => whnf)
      refine loopq (X := Nat) (fun _ => True) (fun i => [(3, .int .i64 0), (1, .ptr 0 0)]) (fun _ => [.cells false 47 [.str nm, .int .i64 k, .int .i64 c, .emp b, .int .i64 x]]) (fun i => 0) ?_ 0 trivial ⟨[0], rfl, rfl, ⟨⟨rfl, trivial⟩, ⟨rfl, rfl⟩, trivial⟩, ⟨⟨_, rfl, RenL.solid _ (solidsB_ok _ rfl)⟩, trivial⟩⟩
      intro i hi J hn hx
      (conv => whnf)
      refine hx _ _ _ (by intro e; cases e) ?_
      (conv => whnf)
      show decide ((nm.length : Int) ≤ 300) = decide (nm.length ≤ 300)
      simp only [decide_eq_decide]; omega
    · rw [e]
      (conv => whnf)
      refine loopq (X := Nat) (fun i => i ≤ l.length ∧ (∀ j (hj : j < l.length), j < i → decide ((l[j]'hj).length ≤ 2000) = true) ∧ (0 < i → l.length ≤ 60)) (fun i => [(3, .int .i64 i), (1, .ptr 0 0)]) (fun _ => [.cells false 47 [.str nm, .int .i64 k, .int .i64 c, .row 1 (l.map sC), .int .i64 x]]) (fun i => l.length - i) ?_ 0 ⟨Nat.zero_le _, fun j hj h => by omega, by omega⟩ ⟨[0], rfl, rfl, ⟨⟨rfl, trivial⟩, ⟨rfl, rfl⟩, trivial⟩, ⟨⟨_, rfl, RenL.solid _ ⟨trivial, trivial, trivial, sd, trivial, trivial⟩⟩, trivial⟩⟩
      intro i ⟨hi, hk, h60⟩ J hn hx
      generalize hys : l.map sC = ys at *
      have hyl : ys.length = l.length := by rw [← hys, List.length_map]
      (conv => whnf)
      refine tst (fun h3 => ?_) (fun h3 => ?_)
      · have hil : i < l.length := by
          have h3a : decide ((i : Int) < (ys.length : Int)) = true := h3
          simp only [decide_eq_true_eq] at h3a; omega
        have gd : List.getD ys (Int.toNat (i : Int)) [] = sC (l[i]'hil) := by rw [← hys, Int.toNat_natCast]; exact sC_get hil
        (conv => whnf)
        refine obl (by simp [idxOk]; omega) ?_
        rw [gd]
        (conv => whnf)
        refine tst (fun h4 => ?_) (fun h4 => ?_)
        · have h41 : decide ((l[i]'hil).length ≤ 2000) = false := by
            have h4' : decide (2000 < ((l[i]'hil).length : Int)) = true := h4
            simp only [decide_eq_true_eq, decide_eq_false_iff_not] at h4' ⊢; omega
          (conv => whnf)
          refine hx _ _ _ (by intro e; cases e) ?_
          (conv => whnf)
          unfold sm10
          rw [all_first hil h41]; rfl
        · have h41 : decide ((l[i]'hil).length ≤ 2000) = true := by
            have h4' : decide (2000 < ((l[i]'hil).length : Int)) = false := h4
            simp only [decide_eq_true_eq, decide_eq_false_iff_not] at h4' ⊢; omega
          (conv => whnf)
          refine tst (fun h5 => ?_) (fun h5 => ?_)
          · have h51 : decide (l.length ≤ 60) = false := by
              have h5' : decide (60 < (ys.length : Int)) = true := h5
              simp only [decide_eq_true_eq, decide_eq_false_iff_not] at h5' ⊢; omega
            (conv => whnf)
            refine hx _ _ _ (by intro e; cases e) ?_
            (conv => whnf)
            unfold sm10
            rw [h51]; simp
          · have h51 : l.length ≤ 60 := by
              have h5' : decide (60 < (ys.length : Int)) = false := h5
              simp only [decide_eq_false_iff_not] at h5'; omega
            (conv => whnf)
            refine hn (i + 1) _ _ ⟨by omega, fun j hj hlt => ?_, fun _ => h51⟩ (by omega) ⟨[0], rfl, rfl, ⟨⟨?_, trivial⟩, ⟨rfl, rfl⟩, trivial⟩, ⟨⟨_, rfl, RenL.solid _ ⟨trivial, trivial, trivial, sd, trivial, trivial⟩⟩, trivial⟩⟩
            · by_cases hji : j = i
              · subst hji; exact h41
              · exact hk j hj (by omega)
            · show AV.int .i64 (IntKind.i64.wrap ((i : Int) + 1)) = _
              rw [wr (by omega) (by omega)]; rfl
      · have hil : ¬ i < l.length := by
          have h3a : decide ((i : Int) < (ys.length : Int)) = false := h3
          simp only [decide_eq_false_iff_not] at h3a; omega
        (conv => whnf)
        refine hx _ _ _ (by intro e; cases e) ?_
        (conv => whnf)
        have a1 : (l.all fun s => decide (s.length ≤ 2000)) = true := all_upto fun j hj => hk j hj (by omega)
        have a2 : l.length ≤ 60 := by
          by_cases h0 : l.length = 0
          · omega
          · exact h60 (by omega)
        show decide ((nm.length : Int) ≤ 300) = sm10 nm l
        unfold sm10
        rw [a1, decide_eq_true a2]
        simp only [Bool.true_and, decide_eq_decide]; omega
  · cases hg
end Go.Abs.R

namespace Go.Abs.R
open Go.Abs Go.Proofs
set_option maxRecDepth 100000
set_option linter.unusedVariables false
set_option linter.unusedSimpArgs false
attribute [local irreducible] sm10
/-- a link of a chain -/
structure Lk where
  nm : Bs
  k : Int
  c : Int
  ds : AV
  x : Int
  y : Int
def lC (l : Lk) : List AV := [.str l.nm, .int .i64 l.k, .int .i64 l.c, l.ds, .int .i64 l.x, .int .i64 l.y]
def lOf (y : List AV) : Lk := ⟨(y.getD 0 .undef).toS, (y.getD 1 .undef).toI, (y.getD 2 .undef).toI, y.getD 3 .undef, (y.getD 4 .undef).toI, (y.getD 5 .undef).toI⟩
def isLk : List AV → Bool
  | [.str _, .int .i64 _, .int .i64 _, d, .int .i64 _, .int .i64 _] => dsOk d
  | _ => false
def lksOf : AV → List Lk
  | .row 6 ys => ys.map lOf
  | _ => []
def lksOk : AV → Bool
  | .emp _ => true
  | .row 6 ys => ys.all isLk && decide (ys.length ≤ 9223372036854775807)
  | _ => false
theorem lR_of : ∀ {ys : List (List AV)}, ys.all isLk = true → ys = (ys.map lOf).map lC ∧ ∀ l ∈ ys.map lOf, dsOk l.ds = true
  | [], _ => ⟨rfl, fun l h => by cases h⟩
  | y :: ys, h => by
    simp only [List.all_cons, Bool.and_eq_true] at h
    obtain ⟨h1, h2⟩ := h
    obtain ⟨r1, r2⟩ := lR_of h2
    unfold isLk at h1
    split at h1
    · refine ⟨?_, ?_⟩
      · rw [List.map_cons, List.map_cons, ← r1]; rfl
      · intro l hl
        rw [List.map_cons, List.mem_cons] at hl
        rcases hl with rfl | hl
        · exact h1
        · exact r2 l hl
    · cases h1
theorem solid_lC : ∀ (l : List Lk), (∀ x ∈ l, dsOk x.ds = true) → Solidss (l.map lC)
  | [], _ => trivial
  | s :: l, h => ⟨⟨trivial, trivial, trivial, solid_ds (h s (by simp)), trivial, trivial, trivial⟩, solid_lC l fun x hx => h x (by simp [hx])⟩
theorem lC_get {l : List Lk} {i : Nat} (h : i < l.length) : List.getD (l.map lC) i [] = lC (l[i]'h) := by
  simp [List.getD_eq_getElem?_getD, List.getElem?_eq_getElem h]
theorem lks_cs {a : AV} (h : lksOk a = true) : (∃ b, a = .emp b ∧ lksOf a = []) ∨ ∃ l, a = .row 6 (l.map lC) ∧ lksOf a = l ∧ l.length ≤ 9223372036854775807 ∧ ∀ x ∈ l, dsOk x.ds = true := by
  unfold lksOk at h
  split at h
  · exact .inl ⟨_, rfl, rfl⟩
  · rename_i ys
    simp only [Bool.and_eq_true, decide_eq_true_eq] at h
    obtain ⟨hy, hd⟩ := lR_of h.1
    exact .inr ⟨_, congrArg (AV.row 6) hy, rfl, by rw [List.length_map]; exact h.2, hd⟩
  · cases h
theorem solid_lks {a : AV} (h : lksOk a = true) : Solid a := by
  rcases lks_cs h with ⟨b, rfl, _⟩ | ⟨l, rfl, _, _, hd⟩
  · trivial
  · exact solid_lC l hd
def smL (l : Lk) : Bool := sm10 l.nm (dsOf l.ds)
def T28 : Tbl := [(34, g34)]
/-- ref17.Small -/
def sm17 (l : List Lk) (z : Lk) : Bool := l.all smL && decide (l.length ≤ 12) && smL z
def g12 : List AV → Option (Bool × AV)
  | [.agg [lk, .int .i64 kd, .str zn, .str nm, .int .i64 k, .int .i64 c, ds, .int .i64 x, .int .i64 y]] => some (lksOk lk && dsOk ds, .bool (sm17 (lksOf lk) ⟨nm, k, c, ds, x, y⟩))
  | _ => none
set_option maxHeartbeats 1000000 in
theorem s12 : Spec (EY T28) Tryz.f12 g12 := by
  intro args v hg
  unfold g12 at hg
  split at hg
  · rename_i lk kd zn nm k c ds x y
    simp only [Option.some.injEq, Prod.mk.injEq, true_and, decide_eq_true_eq, Bool.and_eq_true] at hg
    obtain ⟨⟨hk, hd⟩, rfl⟩ := hg
    have sd := solid_ds hd
    have sk := solid_lks hk
    refine ⟨⟨⟨sk, trivial, trivial, trivial, trivial, trivial, sd, trivial, trivial, trivial⟩, trivial⟩, ?_⟩
    rcases lks_cs hk with ⟨b, rfl, e⟩ | ⟨l, rfl, e, hl, hds⟩
    · rw [e]
      (conv => whnf)
      refine loopq (X := Nat) (fun _ => True) (fun i => [(3, .int .i64 0), (1, .ptr 0 0)]) (fun _ => [.cells false 51 [.emp b, .int .i64 kd, .str zn, .str nm, .int .i64 k, .int .i64 c, ds, .int .i64 x, .int .i64 y]]) (fun i => 0) ?_ 0 trivial ⟨[0], rfl, rfl, ⟨⟨rfl, trivial⟩, ⟨rfl, rfl⟩, trivial⟩, ⟨⟨_, rfl, RenL.solid _ ⟨sk, trivial, trivial, trivial, trivial, trivial, sd, trivial, trivial, trivial⟩⟩, trivial⟩⟩
      intro i hi J hn hx
      (conv => whnf)
      refine hx _ _ _ (by intro e; cases e) ?_
      (conv => whnf)
      refine obl hd ?_
      (conv => whnf)
      show sm10 nm (dsOf ds) = sm17 [] ⟨nm, k, c, ds, x, y⟩
      unfold sm17 smL
      simp
    · rw [e]
      (conv => whnf)
      refine loopq (X := Nat) (fun i => i ≤ l.length ∧ (∀ j (hj : j < l.length), j < i → smL (l[j]'hj) = true)) (fun i => [(3, .int .i64 i), (1, .ptr 0 0)]) (fun _ => [.cells false 51 [.row 6 (l.map lC), .int .i64 kd, .str zn, .str nm, .int .i64 k, .int .i64 c, ds, .int .i64 x, .int .i64 y]]) (fun i => l.length - i) ?_ 0 ⟨Nat.zero_le _, fun j hj h => by omega⟩ ⟨[0], rfl, rfl, ⟨⟨rfl, trivial⟩, ⟨rfl, rfl⟩, trivial⟩, ⟨⟨_, rfl, RenL.solid _ ⟨sk, trivial, trivial, trivial, trivial, trivial, sd, trivial, trivial, trivial⟩⟩, trivial⟩⟩
      intro i ⟨hi, hkk⟩ J hn hx
      generalize hys : l.map lC = ys at *
      have hyl : ys.length = l.length := by rw [← hys, List.length_map]
      (conv => whnf)
      refine tst (fun h3 => ?_) (fun h3 => ?_)
      · have hil : i < l.length := by
          have h3a : decide ((i : Int) < (ys.length : Int)) = true := h3
          simp only [decide_eq_true_eq] at h3a; omega
        have gd : List.getD ys (Int.toNat (i : Int)) [] = lC (l[i]'hil) := by rw [← hys, Int.toNat_natCast]; exact lC_get hil
        have hdi : dsOk (l[i]'hil).ds = true := hds _ (List.getElem_mem hil)
        (conv => whnf)
        refine obl (by simp [idxOk]; omega) ?_
        rw [gd]
        generalize hLi : (l[i]'hil) = L at *
        obtain ⟨nm', k', c', ds', x', y'⟩ := L
        (conv => whnf)
        refine obl hdi ?_
        (conv => whnf)
        refine tst (fun h4 => ?_) (fun h4 => ?_)
        · have h41 : smL (l[i]'hil) = false := by
            have h4' : (!sm10 nm' (dsOf ds')) = true := h4
            rw [hLi]; unfold smL; simpa using h4'
          (conv => whnf)
          refine hx _ _ _ (by intro e; cases e) ?_
          (conv => whnf)
          unfold sm17
          rw [all_first hil h41]; rfl
        · have h41 : smL (l[i]'hil) = true := by
            have h4' : (!sm10 nm' (dsOf ds')) = false := h4
            rw [hLi]; unfold smL; simpa using h4'
          (conv => whnf)
          refine hn (i + 1) _ _ ⟨by omega, fun j hj hlt => ?_⟩ (by omega) ⟨[0], rfl, rfl, ⟨⟨?_, trivial⟩, ⟨rfl, rfl⟩, trivial⟩, ⟨⟨_, rfl, RenL.solid _ ⟨sk, trivial, trivial, trivial, trivial, trivial, sd, trivial, trivial, trivial⟩⟩, trivial⟩⟩
          · by_cases hji : j = i
            · subst hji; exact h41
            · exact hkk j hj (by omega)
          · show AV.int .i64 (IntKind.i64.wrap ((i : Int) + 1)) = _
            rw [wr (by omega) (by omega)]; rfl
      · have hil : ¬ i < l.length := by
          have h3a : decide ((i : Int) < (ys.length : Int)) = false := h3
          simp only [decide_eq_false_iff_not] at h3a; omega
        (conv => whnf)
        refine hx _ _ _ (by intro e; cases e) ?_
        have a1 : l.all smL = true := all_upto fun j hj => hkk j hj (by omega)
        unfold sm17
        rw [a1]
        (conv => whnf)
        refine tst (fun h6 => ?_) (fun h6 => ?_)
        · have h6' : decide (l.length ≤ 12) = true := by
            have h6a : decide ((ys.length : Int) ≤ 12) = true := h6
            simp only [decide_eq_true_eq] at h6a ⊢; omega
          rw [h6']
          (conv => whnf)
          refine obl hd ?_
          (conv => whnf)
          unfold smL
          simp
        · have h6' : decide (l.length ≤ 12) = false := by
            have h6a : decide ((ys.length : Int) ≤ 12) = false := h6
            simp only [decide_eq_false_iff_not] at h6a ⊢; omega
          rw [h6']
          (conv => whnf)
          simp
  · cases hg
end Go.Abs.R
