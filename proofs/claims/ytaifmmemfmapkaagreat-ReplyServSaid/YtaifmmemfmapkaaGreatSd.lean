import Derived.Test.YtaifmmemfmapkaaGreatSc
import Derived.Lib.Join
namespace Go.Abs.R
open Go.Abs Go.Proofs
set_option maxRecDepth 100000
set_option linter.unusedVariables false
set_option linter.unusedSimpArgs false
/-- a row of strings -/
def strR (xs : List Bs) : List (List AV) := xs.map fun x => [.str x]
def isStr1 : List AV → Bool
  | [.str _] => true
  | _ => false
def str1 (y : List AV) : Bs := (y.headD .undef).toS
theorem strR_of : ∀ {ys : List (List AV)}, ys.all isStr1 = true → ys = strR (ys.map str1)
  | [], _ => rfl
  | y :: ys, h => by
    simp only [List.all_cons, Bool.and_eq_true] at h
    obtain ⟨h1, h2⟩ := h
    unfold isStr1 at h1
    split at h1
    · rename_i x
      show _ = [AV.str x] :: strR (ys.map str1)
      rw [← strR_of h2]
    · cases h1
theorem strR_get {xs : List Bs} {i : Nat} (h : i < xs.length) : List.getD (strR xs) i [] = [.str (xs[i]'h)] := by
  simp [strR, List.getD_eq_getElem?_getD, List.getElem?_eq_getElem h]
theorem strR_len (xs : List Bs) : (strR xs).length = xs.length := by simp [strR]
theorem solid_strR (xs : List Bs) : Solidss (strR xs) := by
  rw [solidss_iff]
  intro x hx
  simp only [strR, List.mem_map] at hx
  obtain ⟨y, _, rfl⟩ := hx
  simp [Solids, Solid]
theorem strR_drop (xs : List Bs) (k : Nat) : (strR xs).drop k = strR (xs.drop k) := by simp [strR]
def g153 : List AV → Option (Bool × AV)
  | [.row 1 ys, .str []] => some (ys.all isStr1 && decide (Lib.lens (ys.map str1) ≤ 1099511627776) && decide (ys.length ≤ 1099511627776), .str (ys.map str1).flatten)
  | [.emp true, .str []] => some (true, .str [])
  | _ => none
def T4 : Tbl := [(123, g123), (60, g60), (94, g94), (95, g95)]
theorem flat_len : ∀ (xs : List Bs), xs.flatten.length = Lib.lens xs
  | [] => rfl
  | x :: xs => by simp [Lib.lens]
theorem le_sum : ∀ {l : List Nat} {n : Nat}, n ∈ l → n ≤ l.sum
  | [], n, h => by simp at h
  | a :: l, n, h => by
    simp only [List.mem_cons] at h
    rcases h with rfl | h
    · simp
    · have := le_sum h
      simp; omega
theorem ren_bld {F : AV → AV → Prop} {k k' j : Nat} (hk : k' = k) : RenL (fun β => [0, j].getD β 0) 2 F [.ptr 0 0, .sl 1 1 0 k] [.ptr 0 0, .sl j 1 0 k'] := by
  subst hk
  exact ⟨_, _, rfl, ⟨rfl, rfl⟩, _, _, rfl, ⟨rfl, rfl⟩, rfl⟩
/-- what an append asks -/
theorem app_ok {k m : Nat} {cs : List AV} (h : cs.length = k) (hm : k + m ≤ 35184372088832) : (true && Nat.beq 5 5 && Nat.beq 1 1 && Nat.beq 0 0 && (k * 1).beq (List.take (k * 1) cs).length && roomy (k + m) 1) = true := by
  rw [Nat.mul_one, List.take_of_length_le (by omega), h]
  simp only [Nat.beq_eq, roomy, Nat.ble_eq, Bool.and_eq_true, Nat.mul_one, true_and, and_true]
  exact hm
theorem take_bytes (b : Bs) : List.take (b.length * 1) (bytesCells b) = bytesCells b := by
  rw [Nat.mul_one]; exact List.take_of_length_le (by rw [bytesCells_length]; omega)
theorem bytes_app (a b : Bs) : bytesCells a ++ bytesCells b = bytesCells (a ++ b) := by simp [bytesCells]
theorem s153 : Spec (EY T4) Tryz.f153 g153 := by
  intro args v hg
  unfold g153 at hg
  split at hg
  · rename_i ys
    simp only [Option.some.injEq, Prod.mk.injEq, true_and, decide_eq_true_eq, Bool.and_eq_true] at hg
    obtain ⟨⟨⟨ha, hb⟩, hc⟩, rfl⟩ := hg
    have hy := strR_of ha
    generalize ys.map str1 = xs at *
    subst hy
    rw [strR_len] at hc
    clear ha
    refine ⟨by simp only [Solids, Solid]; exact ⟨solid_strR _, trivial, trivial⟩, ?_⟩
    match xs, hb, hc with
    | [], hb, hc =>
      (conv => whnf)
      rfl
    | [x], hb, hc =>
      (conv => whnf)
      simp
    | x :: y :: r, hb, hc =>
      (conv => whnf)
      generalize hz : x :: y :: r = xs at *
      have h2 : 2 ≤ xs.length := by rw [← hz]; simp
      refine loopq (X := Nat) (fun i => i ≤ xs.length) (fun i => [(39, .row 1 (strR xs)), (40, .int .i64 xs.length), (41, .int .i64 i), (5, .int .i64 (Lib.lens (xs.take i) : Nat)), (0, .row 1 (strR xs)), (1, .str [])]) (fun _ => []) (fun i => xs.length - i) ?_ 0 (by omega)
        ⟨[], rfl, rfl, ⟨⟨by rw [← hz]; rfl, solid_strR _⟩, ⟨by rw [← hz, ← strR_len]; rfl, trivial⟩, ⟨rfl, trivial⟩, ⟨rfl, trivial⟩, ⟨by rw [← hz]; rfl, solid_strR _⟩, ⟨rfl, trivial⟩, trivial⟩, trivial⟩
      intro i hi J hn hx
      (conv => whnf)
      refine tst (fun h3 => ?_) (fun h3 => ?_)
      · have hil : i < xs.length := by simpa using h3
        have tk : Lib.lens (xs.take (i + 1)) = Lib.lens (xs.take i) + (xs[i]).length := Lib.lens_take_succ xs i _ (List.getElem?_eq_getElem hil)
        have tl := Lib.lens_take_le xs (i + 1)
        have gd : List.getD (strR xs) (Int.toNat (i : Int)) [] = [.str xs[i]] := by rw [Int.toNat_natCast]; exact strR_get hil
        (conv => whnf)
        refine obl (by simp [idxOk, strR_len]; omega) ?_
        rw [gd]
        (conv => whnf)
        have w1 : IntKind.i64.wrap (9223372036854775807 - ((Lib.lens (xs.take i) : Nat) : Int)) = 9223372036854775807 - ((Lib.lens (xs.take i) : Nat) : Int) := wr (by omega) (by omega)
        refine tst (fun h4 => ?_) (fun h4 => ?_)
        · exfalso
          simp only [w1, decide_eq_true_eq] at h4
          omega
        (conv => whnf)
        refine hn (i + 1) _ _ (by omega) (by omega) ⟨[], rfl, rfl, ⟨⟨rfl, solid_strR _⟩, ⟨rfl, trivial⟩, ⟨?_, trivial⟩, ⟨?_, trivial⟩, ⟨rfl, solid_strR _⟩, ⟨rfl, trivial⟩, trivial⟩, trivial⟩
        · show AV.int .i64 (IntKind.i64.wrap ((i : Int) + 1)) = _
          rw [wr (by omega) (by omega)]; rfl
        · show AV.int .i64 (IntKind.i64.wrap (((Lib.lens (xs.take i) : Nat) : Int) + (xs[i].length : Int))) = _
          rw [wr (by omega) (by omega), tk]; rfl
      have hie : i = xs.length := by simp at h3; omega
      subst hie
      rw [List.take_length]
      refine hx _ _ _ (by intro e; cases e) ?_
      (conv => whnf)
      have gd0 : List.getD (strR xs) (Int.toNat (0 : Int)) [] = [.str xs[0]] := strR_get (by omega)
      have hsp : xs = xs[0] :: xs.drop 1 := by subst hz; rfl
      refine tst (fun h5 => ?_) (fun h5 => ?_)
      · (conv => whnf)
        refine obl (by simp; omega) ?_
        (conv => whnf)
        refine obl (by simp [idxOk, strR_len]; omega) ?_
        rw [gd0]
        (conv => whnf)
        have l0 : xs[0].length ≤ Lib.lens xs := by conv => rhs; rw [hsp]
                                                   simp [Lib.lens]
        refine obl (app_ok (k := 0) (cs := []) rfl (by omega)) ?_
        (conv => whnf)
        refine obl (by simp [bndOk, strR_len]; omega) ?_
        (conv => whnf)
        have dl : (xs.drop 1).length = xs.length - 1 := by simp
        refine loopq (X := Nat) (fun i => i ≤ (xs.drop 1).length) (fun i => [(63, .row 1 (strR (xs.drop 1))), (64, .int .i64 (xs.drop 1).length), (65, .int .i64 i), (1, .str []), (8, .ptr 0 0)])
          (fun i => [.cells false 154 [.ptr 0 0, .sl 1 1 0 (xs.take (i + 1)).flatten.length], .cells false 5 (bytesCells (xs.take (i + 1)).flatten)]) (fun i => (xs.drop 1).length - i) ?_ 0 (by omega)
          ⟨[0, 2], rfl, rfl, ⟨⟨?_, solid_strR _⟩, ⟨?_, trivial⟩, ⟨rfl, trivial⟩, ⟨rfl, trivial⟩, ⟨rfl, rfl⟩, trivial⟩, ⟨⟨[.ptr 0 0, .sl 2 1 0 (0 + xs[0].length)], rfl, ren_bld ?_⟩, ⟨List.take (0 * 1) [] ++ bytesCells xs[0], rfl, ?_⟩, trivial⟩⟩
        · intro i hi J hn hx
          (conv => whnf)
          refine tst (fun h6 => ?_) (fun h6 => ?_)
          · have hil : i < (xs.drop 1).length := by simpa using h6
            have hil2 : i + 1 < xs.length := by omega
            have gd : List.getD (strR (xs.drop 1)) (Int.toNat (i : Int)) [] = [.str xs[i + 1]] := by
              rw [Int.toNat_natCast, strR_get hil]; simp [Nat.add_comm]
            have tk : (xs.take (i + 1 + 1)).flatten = (xs.take (i + 1)).flatten ++ xs[i + 1] := by
              rw [List.take_add_one (i := i + 1), List.getElem?_eq_getElem hil2]
              simp only [Option.toList_some, List.flatten_append, List.flatten_cons, List.flatten_nil, List.append_nil]
            have tl : (xs.take (i + 1 + 1)).flatten.length ≤ Lib.lens xs := by rw [flat_len]; exact Lib.lens_take_le _ _
            generalize (xs.take (i + 1)).flatten = acc at *
            rw [tk, List.length_append] at tl
            (conv => whnf)
            refine obl (by simp [idxOk, strR_len]; omega) ?_
            rw [gd]
            (conv => whnf)
            refine obl (app_ok (bytesCells_length _) (by simp; omega)) ?_
            (conv => whnf)
            refine obl (app_ok (k := acc.length + 0) (cs := List.take (acc.length * 1) (bytesCells acc) ++ bytesCells []) (by rw [take_bytes]; simp [bytesCells]) (by omega)) ?_
            (conv => whnf)
            refine hn (i + 1) _ _ (by omega) (by omega) ⟨[0, 3], rfl, rfl, ⟨⟨rfl, solid_strR _⟩, ⟨rfl, trivial⟩, ⟨?_, trivial⟩, ⟨rfl, trivial⟩, ⟨rfl, rfl⟩, trivial⟩, ⟨⟨[.ptr 0 0, .sl 3 1 0 (acc.length + 0 + xs[i + 1].length)], rfl, ren_bld ?_⟩, ⟨List.take ((acc.length + 0) * 1) (List.take (acc.length * 1) (bytesCells acc) ++ bytesCells []) ++ bytesCells xs[i + 1], rfl, ?_⟩, trivial⟩⟩
            · show AV.int .i64 (IntKind.i64.wrap ((i : Int) + 1)) = _
              rw [wr (by omega) (by omega)]; rfl
            · rw [tk, List.length_append]; omega
            · refine renL_eq (solid_bytesCells _) ?_
              rw [take_bytes]
              show List.take (acc.length * 1) (bytesCells acc ++ bytesCells []) ++ bytesCells xs[i + 1] = _
              rw [bytes_app, List.append_nil, take_bytes, bytes_app, ← tk]
          · have hie : i = (xs.drop 1).length := by simp at h6 hi; simp; omega
            subst hie
            have te : (xs.take ((xs.drop 1).length + 1)).flatten = xs.flatten := by rw [List.take_of_length_le (by omega)]
            rw [te]
            refine hx _ _ _ (by intro e; cases e) ?_
            have hp : 0 < Lib.lens xs := by
              simp only [decide_eq_true_eq] at h5
              have : IntKind.i64.wrap (0 - 0) = 0 := wr (by omega) (by omega)
              rw [this] at h5
              omega
            have hfl := flat_len xs
            (conv => whnf)
            have e1 : List.take (Int.toNat (xs.flatten.length : Int)) (bytesCells xs.flatten) = bytesCells xs.flatten := by
              rw [Int.toNat_natCast]; exact List.take_of_length_le (by rw [bytesCells_length]; omega)
            refine obl (show Nat.blt 0 xs.flatten.length = true from Nat.ble_eq_true_of_le (by omega)) ?_
            (conv => whnf)
            refine obl ?_ ?_
            · simp only [Bool.and_eq_true, decide_eq_true_eq]
              refine ⟨⟨⟨by omega, by rw [bytesCells_length]; omega⟩, ?_⟩, by omega⟩
              rw [e1]; exact all_bytesCells _
            (conv => whnf)
            show cellsBytes (List.take (Int.toNat (xs.flatten.length : Int)) (bytesCells xs.flatten)) = _
            rw [e1, cb_bytesCells]
        · show AV.row 1 (List.take (Int.toNat ((strR xs).length : Int) - Int.toNat 1) (List.drop (Int.toNat 1) (strR xs))) = _
          rw [strR_len, show Int.toNat (1 : Int) = 1 from rfl, strR_drop, List.take_of_length_le (by rw [strR_len]; simp)]
        · show AV.int .i64 ((List.take (Int.toNat ((strR xs).length : Int) - Int.toNat 1) (List.drop (Int.toNat 1) (strR xs))).length : Int) = _
          rw [strR_len, show Int.toNat (1 : Int) = 1 from rfl, strR_drop, List.take_of_length_le (by rw [strR_len]; simp), strR_len]
        · conv => rhs; rw [hsp]
          simp
        · have : (xs.take (0 + 1)).flatten = xs[0] := by conv => lhs; rw [hsp]
                                                         simp
          rw [this]
          exact RenL.solid _ (solid_bytesCells _)
      · have hl0 : Lib.lens xs = 0 := by
          simp only [decide_eq_false_iff_not] at h5
          have : IntKind.i64.wrap (0 - 0) = 0 := wr (by omega) (by omega)
          rw [this] at h5
          omega
        (conv => whnf)
        refine obl (by simp [idxOk, strR_len]; omega) ?_
        have allz : ∀ x ∈ xs, x = [] := by
          intro x hx'
          have : x.length ≤ Lib.lens xs := by
            unfold Lib.lens
            exact le_sum (List.mem_map_of_mem hx')
          exact List.eq_nil_of_length_eq_zero (by omega)
        rw [gd0, allz xs[0] (List.getElem_mem _)]
        (conv => whnf)
        refine obl (by simp [bndOk, strR_len]; omega) ?_
        (conv => whnf)
        have dl : (xs.drop 1).length = xs.length - 1 := by simp
        refine loopq (X := Nat) (fun i => i ≤ (xs.drop 1).length) (fun i => [(63, .row 1 (strR (xs.drop 1))), (64, .int .i64 (xs.drop 1).length), (65, .int .i64 i), (1, .str []), (8, .ptr 0 0)])
          (fun i => [.cells false 154 [.ptr 0 0, .emp true]]) (fun i => (xs.drop 1).length - i) ?_ 0 (by omega)
          ⟨[0], rfl, rfl, ⟨⟨?_, solid_strR _⟩, ⟨?_, trivial⟩, ⟨rfl, trivial⟩, ⟨rfl, trivial⟩, ⟨rfl, rfl⟩, trivial⟩, ⟨⟨[.ptr 0 0, .emp true], rfl, _, _, rfl, ⟨rfl, rfl⟩, _, _, rfl, ⟨rfl, trivial⟩, rfl⟩, trivial⟩⟩
        · intro i hi J hn hx
          (conv => whnf)
          refine tst (fun h6 => ?_) (fun h6 => ?_)
          · have hil : i < (xs.drop 1).length := by simpa using h6
            have hil2 : i + 1 < xs.length := by omega
            have gd : List.getD (strR (xs.drop 1)) (Int.toNat (i : Int)) [] = [.str []] := by
              rw [Int.toNat_natCast, strR_get hil]
              have : (xs.drop 1)[i] = [] := allz _ (List.mem_of_mem_drop (List.getElem_mem _))
              rw [this]
            (conv => whnf)
            refine obl (by simp [idxOk, strR_len]; omega) ?_
            rw [gd]
            (conv => whnf)
            refine hn (i + 1) _ _ (by omega) (by omega) ⟨[0], rfl, rfl, ⟨⟨rfl, solid_strR _⟩, ⟨rfl, trivial⟩, ⟨?_, trivial⟩, ⟨rfl, trivial⟩, ⟨rfl, rfl⟩, trivial⟩, ⟨⟨[.ptr 0 0, .emp true], rfl, _, _, rfl, ⟨rfl, rfl⟩, _, _, rfl, ⟨rfl, trivial⟩, rfl⟩, trivial⟩⟩
            show AV.int .i64 (IntKind.i64.wrap ((i : Int) + 1)) = _
            rw [wr (by omega) (by omega)]; rfl
          · refine hx _ _ _ (by intro e; cases e) ?_
            (conv => whnf)
            have : xs.flatten = [] := List.eq_nil_of_length_eq_zero (by rw [flat_len]; exact hl0)
            rw [this]
        · show AV.row 1 (List.take (Int.toNat ((strR xs).length : Int) - Int.toNat 1) (List.drop (Int.toNat 1) (strR xs))) = _
          rw [strR_len, show Int.toNat (1 : Int) = 1 from rfl, strR_drop, List.take_of_length_le (by rw [strR_len]; simp)]
        · show AV.int .i64 ((List.take (Int.toNat ((strR xs).length : Int) - Int.toNat 1) (List.drop (Int.toNat 1) (strR xs))).length : Int) = _
          rw [strR_len, show Int.toNat (1 : Int) = 1 from rfl, strR_drop, List.take_of_length_le (by rw [strR_len]; simp), strR_len]
  · simp only [Option.some.injEq, Prod.mk.injEq, true_and, decide_eq_true_eq, Bool.and_eq_true] at hg
    subst hg
    refine ⟨(by simp [Solids, Solid, Solidss]), ?_⟩
    (conv => whnf)
  · cases hg
end Go.Abs.R

namespace Go.Abs.R
open Go.Abs Go.Proofs
set_option maxRecDepth 100000
set_option linter.unusedVariables false
set_option linter.unusedSimpArgs false
def T5 : Tbl := [(153, g153), (123, g123), (60, g60), (94, g94), (95, g95)]
theorem le_i64 {n : Nat} (h : n ≤ 9223372036854775807) : decide (n ≤ Go.Abs.i64max) = true := decide_eq_true h
/-- names, as parts bear them -/
def namesV : List Bs → AV
  | [] => .emp true
  | x :: xs => .row 1 (strR (x :: xs))
def namesOf : AV → List Bs
  | .row 1 ys => ys.map str1
  | _ => []
def namesOk : AV → Bool
  | .emp true => true
  | .row 1 ys => ys.all isStr1 && decide (Lib.lens (ys.map str1) ≤ 1099511627776) && decide (ys.length ≤ 1099511627776)
  | _ => false
/-- (data.parts).whole -/
def g146 : List AV → Option (Bool × AV)
  | [.agg [.str a, .str b, n]] => some (namesOk n && decide (a.length ≤ 1099511627776) && decide (b.length ≤ 1099511627776), .str (a ++ (namesOf n).flatten ++ b))
  | _ => none
theorem s146 : Spec (EY T5) Tryz.f146 g146 := by
  intro args v hg
  unfold g146 at hg
  split at hg
  · rename_i a b n
    simp only [Option.some.injEq, Prod.mk.injEq, true_and, decide_eq_true_eq, Bool.and_eq_true] at hg
    obtain ⟨⟨⟨hn, ha⟩, hb⟩, rfl⟩ := hg
    unfold namesOk at hn
    split at hn
    · refine ⟨(by simp [Solids, Solid, Solidss]), ?_⟩
      (conv => whnf)
      refine obl (le_i64 (by simp; omega)) ?_
      (conv => whnf)
      refine obl (le_i64 (by simp; omega)) ?_
      (conv => whnf)
      simp [namesOf]
    · rename_i ys
      simp only [Bool.and_eq_true, decide_eq_true_eq] at hn
      refine ⟨?_, ?_⟩
      · have := strR_of hn.1.1
        rw [this]
        simp only [Solids, Solid]; exact ⟨⟨trivial, trivial, solid_strR _, trivial⟩, trivial⟩
      (conv => whnf)
      refine obl (by simp only [Bool.and_eq_true, decide_eq_true_eq]; exact hn) ?_
      have hl := flat_len (ys.map str1)
      (conv => whnf)
      refine obl (le_i64 (by omega)) ?_
      (conv => whnf)
      refine obl (le_i64 (by simp only [List.length_append]; omega)) ?_
      (conv => whnf)
      rfl
    · cases hn
  · cases hg
/-- data.texts -/
def g147 : List AV → Option (Bool × AV)
  | [.str d] => some (decide (d.length ≤ 1099511627776), .bool (textsV d))
  | _ => none
theorem s147 : Spec (EY T5) Tryz.f147 g147 := by
  intro args v hg
  unfold g147 at hg
  split at hg
  · rename_i d
    simp only [Option.some.injEq, Prod.mk.injEq, true_and, decide_eq_true_eq, Bool.and_eq_true] at hg
    obtain ⟨hd, rfl⟩ := hg
    refine ⟨(by simp [Solids, Solid, Solidss]), ?_⟩
    (conv => whnf)
    refine tst (fun h1 => ?_) (fun h1 => ?_)
    · have : d = [] := by simpa using h1
      subst this
      (conv => whnf)
      rfl
    have hne : d ≠ [] := by simpa using h1
    have hv : textsV d = textsN (d.length + 1) d := by unfold textsV; rw [if_neg hne]
    rw [hv]
    (conv => whnf)
    refine loopq (X := Bs) (fun r => textsN (r.length + 1) r = textsN (d.length + 1) d ∧ r.length ≤ d.length) (fun r => [(0, .str r)]) (fun _ => []) (fun r => r.length) ?_ d ⟨rfl, Nat.le_refl _⟩ ⟨[], rfl, rfl, ⟨⟨rfl, trivial⟩, trivial⟩, trivial⟩
    intro r ⟨hr, hl⟩ J hn hx
    cases r with
    | nil =>
      (conv => whnf)
      refine hx _ _ _ (by intro e; cases e) ?_
      (conv => whnf)
      rw [← hr]
      rfl
    | cons c r =>
      simp only [List.length_cons] at hl
      have hc := c.toNat_lt
      (conv => whnf)
      refine obl (by simp [idxOk]) ?_
      have w1 : IntKind.i64.wrap (((List.getD (c :: r) (Int.toNat 0) 0).toNat : Nat) : Int) = (c.toNat : Int) := wr (x := (c.toNat : Int)) (by omega) (by omega)
      have w2 : IntKind.i64.wrap (1 + IntKind.i64.wrap (((List.getD (c :: r) (Int.toNat 0) 0).toNat : Nat) : Int)) = 1 + (c.toNat : Int) := by rw [w1, wr (by omega) (by omega)]
      (conv => whnf)
      refine tst (fun h2 => ?_) (fun h2 => ?_)
      · have h2' : ¬ (1 + c.toNat ≤ r.length + 1) := by
          simp only [w2, decide_eq_true_eq, List.length_cons] at h2; omega
        (conv => whnf)
        refine hx _ _ _ (by intro e; cases e) ?_
        (conv => whnf)
        rw [← hr]
        simp only [textsN, List.length_cons, if_neg h2']
      have h2' : 1 + c.toNat ≤ r.length + 1 := by
        simp only [w2, decide_eq_false_iff_not, List.length_cons] at h2; omega
      (conv => whnf)
      refine obl ?_ ?_
      · simp only [w2, bndOk, Option.getD_some, Option.getD_none, Bool.and_eq_true, decide_eq_true_eq, List.length_cons]; omega
      (conv => whnf)
      refine hn (r.drop c.toNat) _ _ ⟨?_, by simp; omega⟩ (by simp; omega) ⟨[], rfl, rfl, ⟨⟨?_, trivial⟩, trivial⟩, trivial⟩
      · rw [← hr]
        conv => rhs; simp only [textsN, List.length_cons, if_pos h2']
        exact textsN_fuel _ _ _ (by omega) (by simp; omega)
      · show AV.str (List.take (Int.toNat ((c :: r).length : Int) - Int.toNat (IntKind.i64.wrap (1 + IntKind.i64.wrap (((List.getD (c :: r) (Int.toNat 0) 0).toNat : Nat) : Int)))) (List.drop (Int.toNat (IntKind.i64.wrap (1 + IntKind.i64.wrap (((List.getD (c :: r) (Int.toNat 0) 0).toNat : Nat) : Int)))) (c :: r))) = _
        rw [w2, show Int.toNat (1 + (c.toNat : Int)) = c.toNat + 1 by omega, List.drop_succ_cons, List.take_of_length_le (by simp only [List.length_drop, List.length_cons]; omega)]
  · cases hg
end Go.Abs.R

namespace Go.Abs.R
open Go.Abs Go.Proofs
set_option maxRecDepth 100000
set_option linter.unusedVariables false
set_option linter.unusedSimpArgs false
def strCells (xs : List Bs) : List AV := xs.map .str
theorem strCells_length (xs : List Bs) : (strCells xs).length = xs.length := by simp [strCells]
theorem strR_flat (xs : List Bs) : (strR xs).flatten = strCells xs := by
  induction xs with
  | nil => rfl
  | cons x xs ih => simp only [strR, List.map_cons, List.flatten_cons] at ih ⊢; rw [ih]; rfl
theorem solid_strCells (xs : List Bs) : Solids (strCells xs) := by
  rw [solids_iff]; intro x hx
  simp only [strCells, List.mem_map] at hx
  obtain ⟨y, _, rfl⟩ := hx
  unfold Solid; trivial
/-- Rows of solid values ask nothing of the heap. -/
theorem finV_any {h h' : Heap} : ∀ {l : List AV} {bs : List AV}, Solids l → l = bs → FinL h' l bs := fun hs e => e ▸ FinL.solid _ hs
theorem finR_any {h' : Heap} {sz : Nat} {xs : List (List AV)} {cs : List AV} (hs : Solidss xs) (hl : ∀ x ∈ xs, x.length = sz) (e : cs = xs.flatten) : FinR h' sz xs cs := by
  have := FinR.solid (h := h') xs [] hs hl
  rw [List.append_nil] at this
  rw [e]; exact this
theorem strR_one (xs : List Bs) : ∀ x ∈ strR xs, x.length = 1 := by
  intro x hx; simp only [strR, List.mem_map] at hx; obtain ⟨y, _, rfl⟩ := hx; rfl
/-- data.read -/
def g145 : List AV → Option (Bool × AV)
  | [.str s, .int .i64 a, .int .i64 e, .agg [.int .i64 A, .int .i64 N, .int .i64 Z]] =>
    some (decide (s.length ≤ 1099511627776) && decide (0 ≤ a) && decide (a ≤ e) && decide (e ≤ s.length) && decide (0 ≤ A) && decide (A ≤ 16) && decide (0 ≤ N) && decide (N ≤ 2),
      .tup [.agg [.str (readD s a e A N Z).1, .str (readD s a e A N Z).2.1, namesV (readD s a e A N Z).2.2.1], .bool (readD s a e A N Z).2.2.2])
  | _ => none
structure RD where
  i : Nat
  a : Int
  l : List Bs
def RD.S (s : Bs) (e N : Int) (x : RD) : List (Nat × AV) := [(38, .int .i64 x.i), (37, .int .i64 N), (0, .str s), (1, .int .i64 x.a), (2, .int .i64 e), (7, .ptr 0 0), (8, .ptr 1 0), (10, .ptr 2 0), (9, .bool false)]
def RD.H (A N Z : Int) (hd : Bs) (x : RD) : Heap := match x.l with
  | [] => [.cells false 205 [.int .i64 A, .int .i64 N, .int .i64 Z], .cells false 210 [.str [], .str [], .emp true], .cells false 210 [.str hd, .str [], .emp true]]
  | n :: ns => [.cells false 205 [.int .i64 A, .int .i64 N, .int .i64 Z], .cells false 210 [.str [], .str [], .emp true], .cells false 210 [.str hd, .str [], .sl 3 1 0 (n :: ns).length], .cells false 9 (strCells (n :: ns))]
theorem s145 : Spec (EY T5) Tryz.f145 g145 := by
  intro args v hg
  unfold g145 at hg
  split at hg
  · rename_i s a e A N Z
    simp only [Option.some.injEq, Prod.mk.injEq, true_and, decide_eq_true_eq, Bool.and_eq_true] at hg
    obtain ⟨⟨⟨⟨⟨⟨⟨⟨hs, h1⟩, h2⟩, h3⟩, h4⟩, h5⟩, h6⟩, h7⟩, rfl⟩ := hg
    refine ⟨(by simp [Solids, Solid, Solidss]), ?_⟩
    have w1 : IntKind.i64.wrap (e - a) = e - a := wr (by omega) (by omega)
    have w2 : IntKind.i64.wrap (a + A) = a + A := wr (by omega) (by omega)
    (conv => whnf)
    refine tst (fun h8 => ?_) (fun h8 => ?_)
    · have hA : ¬ A ≤ e - a := by simpa [w1] using h8
      have hr : readD s a e A N Z = ([], [], [], false) := by unfold readD; rw [if_neg hA]
      rw [hr]
      (conv => whnf)
      (refine ⟨_, _, rfl, ?_, ⟨_, _, rfl, ?_, rfl⟩⟩) <;> (conv => whnf)
      · (refine ⟨_, _, rfl, ?_, ⟨_, _, rfl, ?_, ⟨_, _, rfl, ?_, rfl⟩⟩⟩) <;> (conv => whnf)
        exact ⟨rfl, trivial⟩
    · have hA : A ≤ e - a := by simpa [w1] using h8
      have rn : rdNames s e N.toNat (a + A) [] = none → readD s a e A N Z = ([], [], [], false) := fun h => by unfold readD; rw [if_pos hA, h]
      have rs : ∀ l b, rdNames s e N.toNat (a + A) [] = some (l, b) → readD s a e A N Z = (cut s a (a + A), cut s b e, l, decide (((cut s b e).length : Int) = Z)) := fun l b h => by unfold readD; rw [if_pos hA, h]
      (conv => whnf)
      refine obl ?_ ?_
      · simp [bndOk, w2]; omega
      (conv => whnf)
      have hcut : List.take (Int.toNat (IntKind.i64.wrap (a + A)) - Int.toNat a) (List.drop (Int.toNat a) s) = cut s a (a + A) := by rw [w2]; rfl
      refine loopq (X := RD) (fun x => x.i ≤ N.toNat ∧ x.l.length = x.i ∧ x.a ≤ e ∧ 0 ≤ x.a ∧ rdNames s e (N.toNat - x.i) x.a x.l = rdNames s e N.toNat (a + A) [] ∧ ∀ n ∈ x.l, n.length ≤ 255)
        (RD.S s e N) (RD.H A N Z (cut s a (a + A))) (fun x => N.toNat - x.i) ?_ ⟨0, a + A, []⟩ ⟨Nat.zero_le _, rfl, show a + A ≤ e by omega, show 0 ≤ a + A by omega, rfl, by simp⟩
        ⟨[0, 1, 2], rfl, rfl, ⟨⟨rfl, trivial⟩, ⟨rfl, trivial⟩, ⟨rfl, trivial⟩, ⟨?_, trivial⟩, ⟨rfl, trivial⟩, ⟨rfl, rfl⟩, ⟨rfl, rfl⟩, ⟨rfl, rfl⟩, ⟨rfl, trivial⟩, trivial⟩,
          ⟨⟨[.int .i64 A, .int .i64 N, .int .i64 Z], rfl, RenL.solid _ (solidsB_ok _ rfl)⟩, ⟨[.str [], .str [], .emp true], rfl, RenL.solid _ (solidsB_ok _ rfl)⟩, ⟨[.str (List.take (Int.toNat (IntKind.i64.wrap (a + A)) - Int.toNat a) (List.drop (Int.toNat a) s)), .str [], .emp true], rfl, ?_⟩, trivial⟩⟩
      · rintro ⟨i, b, l⟩ ⟨i1, i2, i3, i4, i5, i6⟩ J hn hx
        simp only at i1 i2 i3 i4 i5 i6
        cases l with
        | nil =>
          (conv => whnf)
          refine tst (fun h9 => ?_) (fun h9 => ?_)
          · have hi9 : (i : Int) < N := by simpa using h9
            obtain ⟨k, hk⟩ : ∃ k, N.toNat - i = k + 1 := ⟨N.toNat - i - 1, by omega⟩
            have hk' : N.toNat - (i + 1) = k := by omega
            rw [hk] at i5
            simp only [rdNames] at i5
            (conv => whnf)
            refine obl (by simp only [Bool.and_eq_true, decide_eq_true_eq]; exact ⟨hs, by show b ≤ _; omega⟩) ?_
            have hnl := rdV_len s b
            (conv => whnf)
            refine tst (fun h10 => ?_) (fun h10 => ?_)
            · have hq : (rdV s b).2.2 ≠ 0 := by simpa using h10
              have hr := rn (by rw [← i5, if_pos (.inl hq)])
              (conv => whnf)
              refine hx _ _ _ (by intro e; cases e) ?_
              rw [hr]
              (conv => whnf)
              (refine ⟨_, _, rfl, ?_, ⟨_, _, rfl, ?_, rfl⟩⟩) <;> (conv => whnf)
              · (refine ⟨_, _, rfl, ?_, ⟨_, _, rfl, ?_, ⟨_, _, rfl, ?_, rfl⟩⟩⟩) <;> (conv => whnf)
                exact ⟨rfl, trivial⟩
            have hq : (rdV s b).2.2 = 0 := by simpa using h10
            have hnx := rdV_next hq
            (conv => whnf)
            refine tst (fun h11 => ?_) (fun h11 => ?_)
            · have hq2 : e < (rdV s b).2.1 := by simpa using h11
              have hr := rn (by rw [← i5, if_pos (.inr hq2)])
              (conv => whnf)
              refine hx _ _ _ (by intro e; cases e) ?_
              rw [hr]
              (conv => whnf)
              (refine ⟨_, _, rfl, ?_, ⟨_, _, rfl, ?_, rfl⟩⟩) <;> (conv => whnf)
              · (refine ⟨_, _, rfl, ?_, ⟨_, _, rfl, ?_, ⟨_, _, rfl, ?_, rfl⟩⟩⟩) <;> (conv => whnf)
                exact ⟨rfl, trivial⟩
            have hq2 : ¬ e < (rdV s b).2.1 := by simpa using h11
            rw [if_neg (by omega)] at i5
            (conv => whnf)
            refine hn ⟨i + 1, (rdV s b).2.1, [(rdV s b).1]⟩ _ _ ⟨?_, ?_, show (rdV s b).2.1 ≤ e by omega, hnx.1, ?_, ?_⟩ (show N.toNat - (i + 1) < N.toNat - i by omega)
              ⟨[0, 1, 2, 4], rfl, rfl, ⟨⟨?_, trivial⟩, ⟨rfl, trivial⟩, ⟨rfl, trivial⟩, ⟨rfl, trivial⟩, ⟨rfl, trivial⟩, ⟨rfl, rfl⟩, ⟨rfl, rfl⟩, ⟨rfl, rfl⟩, ⟨rfl, trivial⟩, trivial⟩,
                ⟨⟨[.int .i64 A, .int .i64 N, .int .i64 Z], rfl, RenL.solid _ (solidsB_ok _ rfl)⟩, ⟨[.str [], .str [], .emp true], rfl, RenL.solid _ (solidsB_ok _ rfl)⟩, ⟨[.str (cut s a (a + A)), .str [], .sl 4 1 0 1], rfl, ?_⟩, ⟨[.str (rdV s b).1], rfl, RenL.solid _ (solidsB_ok _ rfl)⟩, trivial⟩⟩
            · exact Nat.succ_le_of_lt (by omega)
            · show (0 : Nat) + 1 = i + 1; simp at i2; omega
            · show rdNames s e (N.toNat - (i + 1)) _ _ = _
              rw [hk']; exact i5
            · intro n hn'; simp only [List.mem_singleton] at hn'; rw [hn']; exact hnl
            · show AV.int .i64 (IntKind.i64.wrap ((i : Int) + 1)) = _
              rw [wr (by omega) (by omega)]; rfl
            · exact ⟨_, _, rfl, ⟨rfl, trivial⟩, _, _, rfl, ⟨rfl, trivial⟩, _, _, rfl, ⟨rfl, rfl⟩, rfl⟩
          · have hi9 : ¬ (i : Int) < N := by simpa using h9
            have hie : N.toNat - i = 0 := by omega
            rw [hie] at i5
            have hr := rs _ _ i5.symm
            (conv => whnf)
            refine hx _ _ _ (by intro e; cases e) ?_
            rw [hr]
            (conv => whnf)
            refine obl ?_ ?_
            · simp [bndOk]; omega
            (conv => whnf)
            (refine ⟨_, _, rfl, ?_, ⟨_, _, rfl, ?_, rfl⟩⟩) <;> (conv => whnf)
            · (refine ⟨_, _, rfl, ?_, ⟨_, _, rfl, ?_, ⟨_, _, rfl, ?_, rfl⟩⟩⟩) <;> (conv => whnf)
              all_goals first | rfl | exact ⟨rfl, trivial⟩
            · rfl
        | cons n l =>
          (conv => whnf)
          refine tst (fun h9 => ?_) (fun h9 => ?_)
          · have hi9 : (i : Int) < N := by simpa using h9
            obtain ⟨k, hk⟩ : ∃ k, N.toNat - i = k + 1 := ⟨N.toNat - i - 1, by omega⟩
            have hk' : N.toNat - (i + 1) = k := by omega
            rw [hk] at i5
            simp only [rdNames] at i5
            (conv => whnf)
            refine obl (by simp only [Bool.and_eq_true, decide_eq_true_eq]; exact ⟨hs, by show b ≤ _; omega⟩) ?_
            have hnl := rdV_len s b
            (conv => whnf)
            refine tst (fun h10 => ?_) (fun h10 => ?_)
            · have hq : (rdV s b).2.2 ≠ 0 := by simpa using h10
              have hr := rn (by rw [← i5, if_pos (.inl hq)])
              (conv => whnf)
              refine hx _ _ _ (by intro e; cases e) ?_
              rw [hr]
              (conv => whnf)
              (refine ⟨_, _, rfl, ?_, ⟨_, _, rfl, ?_, rfl⟩⟩) <;> (conv => whnf)
              · (refine ⟨_, _, rfl, ?_, ⟨_, _, rfl, ?_, ⟨_, _, rfl, ?_, rfl⟩⟩⟩) <;> (conv => whnf)
                exact ⟨rfl, trivial⟩
            have hq : (rdV s b).2.2 = 0 := by simpa using h10
            have hnx := rdV_next hq
            (conv => whnf)
            refine tst (fun h11 => ?_) (fun h11 => ?_)
            · have hq2 : e < (rdV s b).2.1 := by simpa using h11
              have hr := rn (by rw [← i5, if_pos (.inr hq2)])
              (conv => whnf)
              refine hx _ _ _ (by intro e; cases e) ?_
              rw [hr]
              (conv => whnf)
              (refine ⟨_, _, rfl, ?_, ⟨_, _, rfl, ?_, rfl⟩⟩) <;> (conv => whnf)
              · (refine ⟨_, _, rfl, ?_, ⟨_, _, rfl, ?_, ⟨_, _, rfl, ?_, rfl⟩⟩⟩) <;> (conv => whnf)
                exact ⟨rfl, trivial⟩
            have hq2 : ¬ e < (rdV s b).2.1 := by simpa using h11
            rw [if_neg (by omega)] at i5
            (conv => whnf)
            have tk : List.take ((n :: l).length * 1) (strCells (n :: l)) = strCells (n :: l) := by
              rw [Nat.mul_one]; exact List.take_of_length_le (by rw [strCells_length]; omega)
            refine obl ?_ ?_
            · show (true && Nat.beq 9 9 && Nat.beq 1 1 && Nat.beq 0 0 && ((n :: l).length * 1).beq (List.take ((n :: l).length * 1) (strCells (n :: l))).length && roomy ((n :: l).length + 1) 16) = true
              rw [tk, strCells_length, Nat.mul_one]
              simp only [Nat.beq_eq, roomy, Nat.ble_eq, Bool.and_eq_true, true_and, and_true]
              omega
            (conv => whnf)
            refine hn ⟨i + 1, (rdV s b).2.1, n :: l ++ [(rdV s b).1]⟩ _ _ ⟨?_, ?_, show (rdV s b).2.1 ≤ e by omega, hnx.1, ?_, ?_⟩ (show N.toNat - (i + 1) < N.toNat - i by omega)
              ⟨[0, 1, 2, 5], rfl, rfl, ⟨⟨?_, trivial⟩, ⟨rfl, trivial⟩, ⟨rfl, trivial⟩, ⟨rfl, trivial⟩, ⟨rfl, trivial⟩, ⟨rfl, rfl⟩, ⟨rfl, rfl⟩, ⟨rfl, rfl⟩, ⟨rfl, trivial⟩, trivial⟩,
                ⟨⟨[.int .i64 A, .int .i64 N, .int .i64 Z], rfl, RenL.solid _ (solidsB_ok _ rfl)⟩, ⟨[.str [], .str [], .emp true], rfl, RenL.solid _ (solidsB_ok _ rfl)⟩, ⟨[.str (cut s a (a + A)), .str [], .sl 5 1 0 ((n :: l).length + 1)], rfl, ?_⟩, ⟨List.take ((n :: l).length * 1) (strCells (n :: l)) ++ [.str (rdV s b).1], rfl, ?_⟩, trivial⟩⟩
            · exact Nat.succ_le_of_lt (by omega)
            · show (n :: l ++ [(rdV s b).1]).length = i + 1; rw [List.length_append, i2]; rfl
            · show rdNames s e (N.toNat - (i + 1)) _ _ = _
              rw [hk']; exact i5
            · intro m hm; simp only [List.mem_append, List.mem_singleton] at hm; exact hm.elim (fun h => i6 m h) (fun h => by rw [h]; exact hnl)
            · show AV.int .i64 (IntKind.i64.wrap ((i : Int) + 1)) = _
              rw [wr (by omega) (by omega)]; rfl
            · have eL : AV.sl 5 1 0 ((n :: l).length + 1) = AV.sl 5 1 0 (n :: l ++ [(rdV s b).1]).length := by rw [List.length_append]; rfl
              rw [eL]; exact ⟨_, _, rfl, ⟨rfl, trivial⟩, _, _, rfl, ⟨rfl, trivial⟩, _, _, rfl, ⟨rfl, rfl⟩, rfl⟩
              -- [show AV.sl 3 1 0 (n :: l ++ [(rdV s b).1]).length = AV.sl 3 1 0 ((n :: l).length + 1) by rw [List.length_append]; rfl]⟩, rfl⟩
            · rw [tk]
              have : strCells (n :: l) ++ [AV.str (rdV s b).1] = strCells (n :: l ++ [(rdV s b).1]) := by simp [strCells]
              rw [this]
              exact RenL.solid _ (solid_strCells _)
          · have hi9 : ¬ (i : Int) < N := by simpa using h9
            have hie : N.toNat - i = 0 := by omega
            rw [hie] at i5
            have hr := rs _ _ i5.symm
            (conv => whnf)
            refine hx _ _ _ (by intro e; cases e) ?_
            rw [hr]
            (conv => whnf)
            refine obl ?_ ?_
            · simp [bndOk]; omega
            (conv => whnf)
            (refine ⟨_, _, rfl, ?_, ⟨_, _, rfl, ?_, rfl⟩⟩) <;> (conv => whnf)
            rotate_left
            · rfl
            · (refine ⟨_, _, rfl, ?_, ⟨_, _, rfl, ?_, ⟨_, _, rfl, ?_, rfl⟩⟩⟩) <;> (conv => whnf)
              · rfl
              · refine ⟨rfl, by rw [strR_len], ?_⟩
                show 0 + (n :: l).length * 1 ≤ (strCells (n :: l)).length ∧ FinR _ 1 (strR (n :: l)) ((strCells (n :: l)).drop 0)
                refine ⟨by rw [strCells_length]; omega, ?_⟩
                exact finR_any (solid_strR _) (strR_one _) (by rw [List.drop_zero, strR_flat])
      · show AV.int .i64 (IntKind.i64.wrap (a + A)) = _
        rw [w2]
      · rw [hcut]; exact RenL.solid _ (solidsB_ok _ rfl)
  · cases hg
end Go.Abs.R

namespace Go.Abs.R
open Go.Abs Go.Proofs
set_option maxRecDepth 100000
set_option linter.unusedVariables false
set_option linter.unusedSimpArgs false
def T7 : Tbl := [(147, g147), (146, g146), (145, g145), (153, g153), (123, g123), (60, g60), (94, g94), (95, g95)]
theorem namesV_ok (l : List Bs) (h1 : l.length ≤ 2) (h2 : ∀ n ∈ l, n.length ≤ 255) : namesOk (namesV l) = true ∧ namesOf (namesV l) = l := by
  cases l with
  | nil => exact ⟨rfl, rfl⟩
  | cons x xs =>
    have e : (strR (x :: xs)).map str1 = x :: xs := by simp [strR, str1, AV.toS, Function.comp_def]
    refine ⟨?_, e⟩
    show ((strR (x :: xs)).all isStr1 && decide (Lib.lens ((strR (x :: xs)).map str1) ≤ 1099511627776) && decide ((strR (x :: xs)).length ≤ 1099511627776)) = true
    rw [e, strR_len]
    have := sum_le (x :: xs) h2
    have h3 : Lib.lens (x :: xs) = ((x :: xs).map (·.length)).sum := rfl
    simp only [Bool.and_eq_true, decide_eq_true_eq]
    refine ⟨⟨by simp [strR, isStr1], by omega⟩, by omega⟩
/-- data.Expand -/
def g125 : List AV → Option (Bool × AV)
  | [.str s, .int .i64 a, .int .i64 n, .int .i64 k] => some (decide (s.length ≤ 1099511627776), .tup [.str (expV s a n k).1, .int .i64 (expV s a n k).2])
  | _ => none
theorem s125 : Spec (EY T7) Tryz.f125 g125 := by
  intro args v hg
  unfold g125 at hg
  split at hg
  · rename_i s a n k
    simp only [Option.some.injEq, Prod.mk.injEq, true_and, decide_eq_true_eq, Bool.and_eq_true] at hg
    obtain ⟨hs, rfl⟩ := hg
    refine ⟨(by simp [Solids, Solid, Solidss]), ?_⟩
    (conv => whnf)
    refine obl (by simpa using hs) ?_
    (conv => whnf)
    refine tst (fun h1 => ?_) (fun h1 => ?_)
    · have ht : takeB s a n = false := by simpa using h1
      have hr : expV s a n k = ([], 2) := by unfold expV; rw [if_neg (by simp [ht])]
      rw [hr]
      (conv => whnf)
      (refine ⟨_, _, rfl, ?_, ⟨_, _, rfl, ?_, rfl⟩⟩) <;> (conv => whnf)
      exact ⟨rfl, rfl⟩
    · have ht : takeB s a n = true := by simpa using h1
      have hti := takeB_iff.1 ht
      have wn : IntKind.i64.wrap (a + n) = a + n := wr (by omega) (by omega)
      have sb := sh_bounds k
      (conv => whnf)
      rw [look_sh _ _ _ k _ rfl rfl rfl rfl]
      (conv => whnf)
      refine tst (fun h2 => ?_) (fun h2 => ?_)
      · have hsb : shB k = true := h2
        (conv => whnf)
        rw [wn]
        have hrl := readD_len s a (a + n) (shA k) (shN k) (shZ k) sb.2.2.2.1
        have hr : expV s a n k = if (readD s a (a + n) (shA k) (shN k) (shZ k)).2.2.2 = false ∨ (k = 16 ∧ textsV ((readD s a (a + n) (shA k) (shN k) (shZ k)).1 ++ (readD s a (a + n) (shA k) (shN k) (shZ k)).2.2.1.flatten ++ (readD s a (a + n) (shA k) (shN k) (shZ k)).2.1) = false) ∨ 65535 < ((readD s a (a + n) (shA k) (shN k) (shZ k)).1 ++ (readD s a (a + n) (shA k) (shN k) (shZ k)).2.2.1.flatten ++ (readD s a (a + n) (shA k) (shN k) (shZ k)).2.1).length then ([], 4) else ((readD s a (a + n) (shA k) (shN k) (shZ k)).1 ++ (readD s a (a + n) (shA k) (shN k) (shZ k)).2.2.1.flatten ++ (readD s a (a + n) (shA k) (shN k) (shZ k)).2.1, 0) := by
          unfold expV; rw [if_pos ht, if_pos hsb]
        rw [hr]
        clear hr
        generalize readD s a (a + n) (shA k) (shN k) (shZ k) = r at *
        obtain ⟨p, q, l, z⟩ := r
        simp only at hrl ⊢
        refine obl ?_ ?_
        · simp only [Bool.and_eq_true, decide_eq_true_eq]; omega
        (conv => whnf)
        obtain ⟨no1, no2⟩ := namesV_ok l hrl.2.2.1 hrl.2.2.2
        refine obl (by show (namesOk (namesV l) && decide (p.length ≤ 1099511627776) && decide (q.length ≤ 1099511627776)) = true; simp only [no1, Bool.true_and, Bool.and_eq_true, decide_eq_true_eq]; omega) ?_
        have hd : p ++ (namesOf (namesV l)).flatten ++ q = p ++ l.flatten ++ q := by rw [no2]
        rw [← hd]
        have hdl : k = 16 → (p ++ (namesOf (namesV l)).flatten ++ q).length ≤ 1099511627776 := fun h => by subst h; cases hsb
        (conv => whnf)
        refine tst (fun h3 => ?_) (fun h3 => ?_)
        · have hz : z = false := by simpa using h3
          rw [if_pos (.inl hz)]
          (conv => whnf)
          (refine ⟨_, _, rfl, ?_, ⟨_, _, rfl, ?_, rfl⟩⟩) <;> (conv => whnf)
          exact ⟨rfl, rfl⟩
        have hz : z = true := by simpa using h3
        subst hz
        (conv => whnf)
        refine tst (fun h4 => ?_) (fun h4 => ?_)
        · have hk : k = 16 := by simpa using h4
          (conv => whnf)
          refine obl (decide_eq_true (hdl hk)) ?_
          (conv => whnf)
          refine tst (fun h5 => ?_) (fun h5 => ?_)
          · have hx : textsV (p ++ (namesOf (namesV l)).flatten ++ q) = false := by
              have h5' : (!textsV (p ++ (namesOf (namesV l)).flatten ++ q)) = true := h5
              simpa using h5'
            rw [if_pos (by simp only [hk, hx]; simp)]
            (conv => whnf)
            (refine ⟨_, _, rfl, ?_, ⟨_, _, rfl, ?_, rfl⟩⟩) <;> (conv => whnf)
            exact ⟨rfl, rfl⟩
          have hx : textsV (p ++ (namesOf (namesV l)).flatten ++ q) = true := by
              have h5' : (!textsV (p ++ (namesOf (namesV l)).flatten ++ q)) = false := h5
              simpa using h5'
          (conv => whnf)
          refine tst (fun h6 => ?_) (fun h6 => ?_)
          · have hy : 65535 < (p ++ (namesOf (namesV l)).flatten ++ q).length := by
              have h6' : (bif false then true else decide ((((p ++ (namesOf (namesV l)).flatten ++ q).length : Nat) : Int) > 65535)) = true := h6
              simp only [cond_false, decide_eq_true_eq, decide_eq_false_iff_not] at h6'; omega
            rw [if_pos (by simp only [hy]; simp)]
            (conv => whnf)
            (refine ⟨_, _, rfl, ?_, ⟨_, _, rfl, ?_, rfl⟩⟩) <;> (conv => whnf)
            exact ⟨rfl, rfl⟩
          · have hy : ¬ 65535 < (p ++ (namesOf (namesV l)).flatten ++ q).length := by
              have h6' : (bif false then true else decide ((((p ++ (namesOf (namesV l)).flatten ++ q).length : Nat) : Int) > 65535)) = false := h6
              simp only [cond_false, decide_eq_true_eq, decide_eq_false_iff_not] at h6'; omega
            rw [if_neg (by simp only [hx, hy]; simp)]
            (conv => whnf)
            (refine ⟨_, _, rfl, ?_, ⟨_, _, rfl, ?_, rfl⟩⟩) <;> (conv => whnf)
            all_goals first | rfl | exact ⟨rfl, rfl⟩
        · have hk : k ≠ 16 := by simpa using h4
          (conv => whnf)
          refine tst (fun h6 => ?_) (fun h6 => ?_)
          · have hy : 65535 < (p ++ (namesOf (namesV l)).flatten ++ q).length := by
              have h6' : (bif false then true else decide ((((p ++ (namesOf (namesV l)).flatten ++ q).length : Nat) : Int) > 65535)) = true := h6
              simp only [cond_false, decide_eq_true_eq, decide_eq_false_iff_not] at h6'; omega
            rw [if_pos (by simp only [hy]; simp)]
            (conv => whnf)
            (refine ⟨_, _, rfl, ?_, ⟨_, _, rfl, ?_, rfl⟩⟩) <;> (conv => whnf)
            exact ⟨rfl, rfl⟩
          · have hy : ¬ 65535 < (p ++ (namesOf (namesV l)).flatten ++ q).length := by
              have h6' : (bif false then true else decide ((((p ++ (namesOf (namesV l)).flatten ++ q).length : Nat) : Int) > 65535)) = false := h6
              simp only [cond_false, decide_eq_true_eq, decide_eq_false_iff_not] at h6'; omega
            rw [if_neg (by simp only [hk, hy]; simp)]
            (conv => whnf)
            (refine ⟨_, _, rfl, ?_, ⟨_, _, rfl, ?_, rfl⟩⟩) <;> (conv => whnf)
            all_goals first | rfl | exact ⟨rfl, rfl⟩
      · have hsb : shB k = false := h2
        have hr : expV s a n k = if (k = 16 ∧ textsV (takeS s a n) = false) ∨ 65535 < (takeS s a n).length then ([], 4) else (takeS s a n, 0) := by
          unfold expV; rw [if_pos ht, if_neg (by simp [hsb])]
        rw [hr]
        have hdl : k = 16 → (takeS s a n).length ≤ 1099511627776 := fun _ => by have := takeS_len ht; omega
        (conv => whnf)
        refine tst (fun h3 => ?_) (fun h3 => ?_)
        · simp [ht] at h3
        (conv => whnf)
        refine tst (fun h4 => ?_) (fun h4 => ?_)
        · have hk : k = 16 := by simpa using h4
          (conv => whnf)
          refine obl (decide_eq_true (hdl hk)) ?_
          (conv => whnf)
          refine tst (fun h5 => ?_) (fun h5 => ?_)
          · have hx : textsV (takeS s a n) = false := by
              have h5' : (!textsV (takeS s a n)) = true := h5
              simpa using h5'
            rw [if_pos (by simp only [hk, hx]; simp)]
            (conv => whnf)
            (refine ⟨_, _, rfl, ?_, ⟨_, _, rfl, ?_, rfl⟩⟩) <;> (conv => whnf)
            exact ⟨rfl, rfl⟩
          have hx : textsV (takeS s a n) = true := by
              have h5' : (!textsV (takeS s a n)) = false := h5
              simpa using h5'
          (conv => whnf)
          refine tst (fun h6 => ?_) (fun h6 => ?_)
          · have hy : 65535 < (takeS s a n).length := by
              have h6' : (bif false then true else decide ((((takeS s a n).length : Nat) : Int) > 65535)) = true := h6
              simp only [cond_false, decide_eq_true_eq, decide_eq_false_iff_not] at h6'; omega
            rw [if_pos (by simp only [hy]; simp)]
            (conv => whnf)
            (refine ⟨_, _, rfl, ?_, ⟨_, _, rfl, ?_, rfl⟩⟩) <;> (conv => whnf)
            exact ⟨rfl, rfl⟩
          · have hy : ¬ 65535 < (takeS s a n).length := by
              have h6' : (bif false then true else decide ((((takeS s a n).length : Nat) : Int) > 65535)) = false := h6
              simp only [cond_false, decide_eq_true_eq, decide_eq_false_iff_not] at h6'; omega
            rw [if_neg (by simp only [hx, hy]; simp)]
            (conv => whnf)
            (refine ⟨_, _, rfl, ?_, ⟨_, _, rfl, ?_, rfl⟩⟩) <;> (conv => whnf)
            all_goals first | rfl | exact ⟨rfl, rfl⟩
        · have hk : k ≠ 16 := by simpa using h4
          (conv => whnf)
          refine tst (fun h6 => ?_) (fun h6 => ?_)
          · have hy : 65535 < (takeS s a n).length := by
              have h6' : (bif false then true else decide ((((takeS s a n).length : Nat) : Int) > 65535)) = true := h6
              simp only [cond_false, decide_eq_true_eq, decide_eq_false_iff_not] at h6'; omega
            rw [if_pos (by simp only [hy]; simp)]
            (conv => whnf)
            (refine ⟨_, _, rfl, ?_, ⟨_, _, rfl, ?_, rfl⟩⟩) <;> (conv => whnf)
            exact ⟨rfl, rfl⟩
          · have hy : ¬ 65535 < (takeS s a n).length := by
              have h6' : (bif false then true else decide ((((takeS s a n).length : Nat) : Int) > 65535)) = false := h6
              simp only [cond_false, decide_eq_true_eq, decide_eq_false_iff_not] at h6'; omega
            rw [if_neg (by simp only [hk, hy]; simp)]
            (conv => whnf)
            (refine ⟨_, _, rfl, ?_, ⟨_, _, rfl, ?_, rfl⟩⟩) <;> (conv => whnf)
            all_goals first | rfl | exact ⟨rfl, rfl⟩
  · cases hg
end Go.Abs.R
