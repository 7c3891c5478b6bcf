import Derived.Test.YtaifmmemfmapkaaGreatTh
namespace Go.Abs.R
open Go.Abs Go.Proofs
set_option maxRecDepth 100000
set_option linter.unusedVariables false
set_option linter.unusedSimpArgs false
/-- head, of code 2 -/
def g37r : List AV → Option (Bool × AV)
  | [.agg [.int .i64 id, .int .i64 b, .str [], .int .i64 k, .int .i64 c, .bool false, .int .i64 s, .int .i64 e, .int .i64 ve, .bool d], .int .i64 2] => some (true, .agg [.int .i64 id, .int .i64 (ansV b 2), .emp true, .emp true, .emp true, .emp true])
  | [.agg [.int .i64 id, .int .i64 b, .str [], .int .i64 k, .int .i64 c, .bool true, .int .i64 s, .int .i64 e, .int .i64 ve, .bool d], .int .i64 2] => some (true, .agg [.int .i64 id, .int .i64 (ansV b 2), .emp true, .emp true, .emp true, .row 5 [[.str [0], .int .i64 41, .int .i64 4096, .int .i64 (optT 0 0 d), .str []]]])
  | [.agg [.int .i64 id, .int .i64 b, .str (a :: nm), .int .i64 k, .int .i64 c, .bool false, .int .i64 s, .int .i64 e, .int .i64 ve, .bool d], .int .i64 2] => some (true, .agg [.int .i64 id, .int .i64 (ansV b 2), .row 3 [[.str (a :: nm), .int .i64 k, .int .i64 c]], .emp true, .emp true, .emp true])
  | [.agg [.int .i64 id, .int .i64 b, .str (a :: nm), .int .i64 k, .int .i64 c, .bool true, .int .i64 s, .int .i64 e, .int .i64 ve, .bool d], .int .i64 2] => some (true, .agg [.int .i64 id, .int .i64 (ansV b 2), .row 3 [[.str (a :: nm), .int .i64 k, .int .i64 c]], .emp true, .emp true, .row 5 [[.str [0], .int .i64 41, .int .i64 4096, .int .i64 (optT 0 0 d), .str []]]])
  | _ => none
theorem opt2 (d : Bool) : optV true 4096 (quoI 2 16) 0 d = (⟨[0], 41, 4096, optT 0 0 d, []⟩, true) := by
  rw [show quoI 2 16 = 0 by decide]
  unfold optV
  rw [if_pos (by decide)]
theorem s37r : Spec (EY T23b) Tryz.f37 g37r := by
  intro args v hg
  refine s37 args v ?_
  unfold g37r at hg
  split at hg
  · exact hg
  · rename_i id b k c s e ve d
    rw [← hg]
    show some (true, AV.agg [.int .i64 id, .int .i64 (ansV b 2), .emp true, .emp true, .emp true, .row 5 [rC (optV true 4096 (quoI 2 16) 0 d).1]]) = _
    rw [opt2]; rfl
  · exact hg
  · rename_i id b a nm k c s e ve d
    rw [← hg]
    show some (true, AV.agg [.int .i64 id, .int .i64 (ansV b 2), .row 3 [[.str (a :: nm), .int .i64 k, .int .i64 c]], .emp true, .emp true, .row 5 [rC (optV true 4096 (quoI 2 16) 0 d).1]]) = _
    rw [opt2]; rfl
  · cases hg
def T26 : Tbl := [(37, g37r), (40, g40)]
def refQ (nm : Bs) (k c : Int) : List Qn := match nm with
  | [] => []
  | a :: nm => [⟨a :: nm, k, c⟩]
def refR (has d : Bool) : List Rr := match has with
  | false => []
  | true => [⟨[0], 41, 4096, optT 0 0 d, []⟩]
/-- reply.Refuse, of code 2 -/
def refV (id b : Int) (nm : Bs) (k c : Int) (has d : Bool) : Bs := (encS id (ansV b 2) (refQ nm k c) (refR has d)).1
def g19 : List AV → Option (Bool × AV)
  | [.agg [.int .i64 id, .int .i64 b, .str nm, .int .i64 k, .int .i64 c, .bool has, .int .i64 s, .int .i64 e, .int .i64 ve, .bool d], .int .i64 2] => some (decide (nm.length ≤ 1099511627776), .str (refV id b nm k c has d))
  | _ => none
theorem s19 : Spec (EY T26) Tryz.f19 g19 := by
  intro args v hg
  unfold g19 at hg
  split at hg
  · rename_i id b nm k c has s e ve d
    simp only [Option.some.injEq, Prod.mk.injEq, true_and, decide_eq_true_eq, Bool.and_eq_true] at hg
    obtain ⟨hl, rfl⟩ := hg
    refine ⟨(by simp [Solids, Solid, Solidss]), ?_⟩
    unfold refV
    cases nm with
    | nil =>
      cases has with
      | false =>
        (conv => whnf)
        rfl
      | true =>
        (conv => whnf)
        rfl
    | cons a nm =>
      cases has with
      | false =>
        (conv => whnf)
        refine obl (decide_eq_true hl) ?_
        (conv => whnf)
        rfl
      | true =>
        (conv => whnf)
        refine obl (by rw [decide_eq_true hl]; rfl) ?_
        (conv => whnf)
        rfl
  · cases hg
end Go.Abs.R
