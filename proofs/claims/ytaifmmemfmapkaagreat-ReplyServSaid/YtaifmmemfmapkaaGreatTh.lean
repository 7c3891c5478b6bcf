import Derived.Test.YtaifmmemfmapkaaGreatTg
namespace Go.Abs.R
open Go.Abs Go.Proofs
set_option maxRecDepth 100000
set_option linter.unusedVariables false
set_option linter.unusedSimpArgs false
attribute [local irreducible] put2 put4 chkM encR
theorem la {a b : Bs} {n m : Nat} (ha : a.length ≤ n) (hb : b.length ≤ m) : (a ++ b).length ≤ n + m := by rw [List.length_append]; omega
theorem ob {a b : Bs} {n m : Nat} (ha : a.length ≤ n) (hb : b.length ≤ m) (h : n + m ≤ 9223372036854775807) : decide (a.length + b.length ≤ i64max) = true := by apply decide_eq_true; unfold i64max; omega
theorem encR_len (q : Bs) (k : Int) (r : Rr) (h : r.data.length ≤ 1099511627776) : (encR q k r).length ≤ 1099511627790 := by
  unfold encR
  split
  · have l1 := put2_len r.kind
    have l2 := put2_len r.cls
    have l3 := put4_len r.ttl
    have l4 := put2_len (r.data.length : Int)
    simp only [List.length_append, List.length_cons, List.length_nil]; omega
  · simp
def encH (id b nq nr : Int) : Nat → Bs
  | 0 => (put2 id ++ put2 b) ++ put2 nq
  | 1 => ((put2 id ++ put2 b) ++ put2 nq) ++ put2 0
  | 2 => (((put2 id ++ put2 b) ++ put2 nq) ++ put2 0) ++ put2 0
  | _ + 3 => ((((put2 id ++ put2 b) ++ put2 nq) ++ put2 0) ++ put2 0) ++ put2 nr
theorem encH_len (id b nq nr : Int) : ∀ i, (encH id b nq nr i).length ≤ 12
  | 0 => Nat.le_trans (la (la (put2_len _) (put2_len _)) (put2_len _)) (by omega)
  | 1 => Nat.le_trans (la (la (la (put2_len _) (put2_len _)) (put2_len _)) (put2_len _)) (by omega)
  | 2 => Nat.le_trans (la (la (la (la (put2_len _) (put2_len _)) (put2_len _)) (put2_len _)) (put2_len _)) (by omega)
  | _ + 3 => la (la (la (la (la (put2_len _) (put2_len _)) (put2_len _)) (put2_len _)) (put2_len _)) (put2_len _)
def encQ (id b : Int) (nr : Int) : List Qn → Bs
  | [] => encH id b 0 nr 3
  | q :: _ => encH id b 1 nr 3 ++ ((q.name ++ put2 q.kind) ++ put2 q.cls)
def fstQ : List Qn → Bs
  | [] => [0]
  | q :: _ => q.name
def encA (id b : Int) (qs : List Qn) : List Rr → Bs
  | [] => encQ id b 0 qs
  | r :: _ => bif decide (65535 < (encQ id b 1 qs).length) then encQ id b 1 qs else encQ id b 1 qs ++ encR (fstQ qs) 12 r
/-- msg.Encode of at most one question, at most one record -/
def encS (id b : Int) (qs : List Qn) (ar : List Rr) : Bs × Int := if chkM ⟨id, b, qs, [], [], ar⟩ = true then (bif decide (65535 < (encA id b qs ar).length) then ([], 6) else (encA id b qs ar, 0)) else ([], 1)
def T25 : Tbl := [(69, g69), (70, g70), (72, g72)]
def g40 : List AV → Option (Bool × AV)
  | [.agg [.int .i64 id, .int .i64 b, .emp true, .emp true, .emp true, .emp true]] => some (true, .tup [.str (encS id b [] []).1, .int .i64 (encS id b [] []).2])
  | [.agg [.int .i64 id, .int .i64 b, .emp true, .emp true, .emp true, .row 5 [[.str [0], .int .i64 a, .int .i64 c2, .int .i64 t, .str d]]]] => some (decide (d.length ≤ 1099511627776), .tup [.str (encS id b [] [⟨[0], a, c2, t, d⟩]).1, .int .i64 (encS id b [] [⟨[0], a, c2, t, d⟩]).2])
  | [.agg [.int .i64 id, .int .i64 b, .row 3 [[.str nm, .int .i64 k, .int .i64 c]], .emp true, .emp true, .emp true]] => some (decide (nm.length ≤ 1099511627776), .tup [.str (encS id b [⟨nm, k, c⟩] []).1, .int .i64 (encS id b [⟨nm, k, c⟩] []).2])
  | [.agg [.int .i64 id, .int .i64 b, .row 3 [[.str nm, .int .i64 k, .int .i64 c]], .emp true, .emp true, .row 5 [[.str [0], .int .i64 a, .int .i64 c2, .int .i64 t, .str d]]]] => some (decide (nm.length ≤ 1099511627776) && decide (d.length ≤ 1099511627776), .tup [.str (encS id b [⟨nm, k, c⟩] [⟨[0], a, c2, t, d⟩]).1, .int .i64 (encS id b [⟨nm, k, c⟩] [⟨[0], a, c2, t, d⟩]).2])
  | _ => none
theorem s40 : Spec (EY T25) Tryz.f40 g40 := by
  intro args v hg
  unfold g40 at hg
  split at hg
  · rename_i id b 
    simp only [Option.some.injEq, Prod.mk.injEq, true_and, decide_eq_true_eq, Bool.and_eq_true] at hg
    subst hg
    have hln : True := trivial
    have hld : True := trivial
    refine ⟨(by simp [Solids, Solid, Solidss]), ?_⟩
    generalize hR : encS id b [] [] = R
    unfold encS at hR
    (conv => whnf)
    refine obl (show (qsOk (.emp true) && true && true && rrsOk2 (.emp true)) = true from ?_) ?_
    · rfl
    (conv => whnf)
    refine tst (fun h1 => ?_) (fun h1 => ?_)
    · have h1' : ¬ chkM ⟨id, b, [], [], [], []⟩ = true := by
        have h1a : (!chkM ⟨id, b, [], [], [], []⟩) = true := h1
        simpa using h1a
      rw [if_neg h1'] at hR
      subst hR
      (conv => whnf)
      (refine ⟨_, _, rfl, ?_, ⟨_, _, rfl, ?_, rfl⟩⟩) <;> (conv => whnf)
      all_goals first | rfl | exact ⟨rfl, trivial⟩ | exact ⟨rfl, rfl⟩
    have h1' : chkM ⟨id, b, [], [], [], []⟩ = true := by
      have h1a : (!chkM ⟨id, b, [], [], [], []⟩) = false := h1
      simpa using h1a
    rw [if_pos h1'] at hR
    clear h1 h1'
    (conv => whnf)
    refine obl (ob (put2_len _) (put2_len _) (by decide)) ?_
    (conv => whnf)
    refine obl (ob (la (put2_len _) (put2_len _)) (put2_len _) (by decide)) ?_
    (conv => whnf)
    refine loopq (X := Nat) (fun i => i ≤ 3) (fun i => [(30, .int .i64 i), (29, .agg [.ptr 0 3, .ptr 0 4, .ptr 0 5]), (1, .ptr 0 0), (4, .str (encH id b 0 0 i))]) (fun i => [.cells false 25 [.int .i64 id, .int .i64 b, .emp true, .emp true, .emp true, .emp true]]) (fun i => 3 - i) ?_ 0 (by omega) ⟨[0], rfl, rfl, ⟨⟨rfl, trivial⟩, ⟨_, rfl, _, _, rfl, ⟨rfl, rfl⟩, _, _, rfl, ⟨rfl, rfl⟩, _, _, rfl, ⟨rfl, rfl⟩, rfl⟩, ⟨rfl, rfl⟩, ⟨rfl, trivial⟩, trivial⟩, ⟨⟨_, rfl, RenL.solid _ (solidsB_ok _ rfl)⟩, trivial⟩⟩
    intro i hi J hn hx
    match i, hi with
    | 0, _ =>
      (conv => whnf)
      refine obl (ob (encH_len _ _ _ _ _) (put2_len _) (by decide)) ?_
      (conv => whnf)
      refine hn 1 _ _ (by omega) (by omega) ⟨[0], rfl, rfl, ⟨⟨rfl, trivial⟩, ⟨_, rfl, _, _, rfl, ⟨rfl, rfl⟩, _, _, rfl, ⟨rfl, rfl⟩, _, _, rfl, ⟨rfl, rfl⟩, rfl⟩, ⟨rfl, rfl⟩, ⟨rfl, trivial⟩, trivial⟩, ⟨⟨_, rfl, RenL.solid _ (solidsB_ok _ rfl)⟩, trivial⟩⟩
    | 1, _ =>
      (conv => whnf)
      refine obl (ob (encH_len _ _ _ _ _) (put2_len _) (by decide)) ?_
      (conv => whnf)
      refine hn 2 _ _ (by omega) (by omega) ⟨[0], rfl, rfl, ⟨⟨rfl, trivial⟩, ⟨_, rfl, _, _, rfl, ⟨rfl, rfl⟩, _, _, rfl, ⟨rfl, rfl⟩, _, _, rfl, ⟨rfl, rfl⟩, rfl⟩, ⟨rfl, rfl⟩, ⟨rfl, trivial⟩, trivial⟩, ⟨⟨_, rfl, RenL.solid _ (solidsB_ok _ rfl)⟩, trivial⟩⟩
    | 2, _ =>
      (conv => whnf)
      refine obl (ob (encH_len _ _ _ _ _) (put2_len _) (by decide)) ?_
      (conv => whnf)
      refine hn 3 _ _ (by omega) (by omega) ⟨[0], rfl, rfl, ⟨⟨rfl, trivial⟩, ⟨_, rfl, _, _, rfl, ⟨rfl, rfl⟩, _, _, rfl, ⟨rfl, rfl⟩, _, _, rfl, ⟨rfl, rfl⟩, rfl⟩, ⟨rfl, rfl⟩, ⟨rfl, trivial⟩, trivial⟩, ⟨⟨_, rfl, RenL.solid _ (solidsB_ok _ rfl)⟩, trivial⟩⟩
    | 3, _ =>
      clear hn
      (conv => whnf)
      refine hx _ _ _ (by intro e; cases e) ?_
      clear hx
      (conv => whnf)
      refine loopq (X := Nat) (fun i => i ≤ 0) (fun i => [(44, .int .i64 i), (43, .int .i64 0), (42, .emp true), (1, .ptr 0 0), (4, .str (match i with | 0 => encH id b 0 0 3 | _ + 1 => encQ id b 0 [])), (7, .str (match i with | 0 => [0] | _ + 1 => fstQ []))]) (fun i => [.cells false 25 [.int .i64 id, .int .i64 b, .emp true, .emp true, .emp true, .emp true]]) (fun i => 0 - i) ?_ 0 (by omega) ⟨[0], rfl, rfl, ⟨⟨rfl, trivial⟩, ⟨rfl, trivial⟩, ⟨rfl, trivial⟩, ⟨rfl, rfl⟩, ⟨rfl, trivial⟩, ⟨rfl, trivial⟩, trivial⟩, ⟨⟨_, rfl, RenL.solid _ (solidsB_ok _ rfl)⟩, trivial⟩⟩
      intro i hi J hn hx
      match i, hi with
      | 0, _ =>
        clear hn
        (conv => whnf)
        refine hx _ _ _ (by intro e; cases e) ?_
        clear hx
        (conv => whnf)
        have hlq : (encQ id b 0 []).length ≤ 1099511627792 := Nat.le_trans (encH_len _ _ _ _ 3) (by omega)
        have hla : (encA id b [] []).length ≤ 2199023255600 := Nat.le_trans hlq (by omega)
        generalize hE : encA id b [] [] = E at *
        refine loopq (X := Nat) (fun i => i ≤ 3) (fun i => [(67, .int .i64 i), (66, .agg [.ptr 0 3, .ptr 0 4, .ptr 0 5]), (4, .str (match i with | 0 | 1 | 2 => encQ id b 0 [] | _ + 3 => E)), (7, .str (fstQ []))]) (fun i => [.cells false 25 [.int .i64 id, .int .i64 b, .emp true, .emp true, .emp true, .emp true]]) (fun i => 3 - i) ?_ 0 (by omega) ⟨[0], rfl, rfl, ⟨⟨rfl, trivial⟩, ⟨_, rfl, _, _, rfl, ⟨rfl, rfl⟩, _, _, rfl, ⟨rfl, rfl⟩, _, _, rfl, ⟨rfl, rfl⟩, rfl⟩, ⟨rfl, trivial⟩, ⟨rfl, trivial⟩, trivial⟩, ⟨⟨_, rfl, RenL.solid _ (solidsB_ok _ rfl)⟩, trivial⟩⟩
        intro i hi J hn hx
        match i, hi with
        | 0, _ =>
          clear hx
          (conv => whnf)
          refine loopq (X := Nat) (fun j => j ≤ 0) (fun j => [(74, .int .i64 j), (73, .int .i64 0), (72, .emp true), (4, .str (match j with | 0 => encQ id b 0 [] | _ + 1 => encQ id b 0 [])), (7, .str (fstQ [])), (67, .int .i64 0), (66, .agg [.ptr 0 3, .ptr 0 4, .ptr 0 5])]) (fun j => [.cells false 25 [.int .i64 id, .int .i64 b, .emp true, .emp true, .emp true, .emp true]]) (fun j => 0 - j) ?_ 0 (by omega) ⟨[0], rfl, rfl, ⟨⟨rfl, trivial⟩, ⟨rfl, trivial⟩, ⟨rfl, trivial⟩, ⟨rfl, trivial⟩, ⟨rfl, trivial⟩, ⟨rfl, trivial⟩, ⟨_, rfl, _, _, rfl, ⟨rfl, rfl⟩, _, _, rfl, ⟨rfl, rfl⟩, _, _, rfl, ⟨rfl, rfl⟩, rfl⟩, trivial⟩, ⟨⟨_, rfl, RenL.solid _ (solidsB_ok _ rfl)⟩, trivial⟩⟩
          intro j hj J2 hn2 hx2
          match j, hj with
          | 0, _ =>
            clear hn2
            (conv => whnf)
            refine hx2 _ _ _ (by intro e; cases e) ?_
            clear hx2
            (conv => whnf)
            refine hn 1 _ _ (by omega) (by omega) ⟨[0], rfl, rfl, ⟨⟨rfl, trivial⟩, ⟨_, rfl, _, _, rfl, ⟨rfl, rfl⟩, _, _, rfl, ⟨rfl, rfl⟩, _, _, rfl, ⟨rfl, rfl⟩, rfl⟩, ⟨rfl, trivial⟩, ⟨rfl, trivial⟩, trivial⟩, ⟨⟨_, rfl, RenL.solid _ (solidsB_ok _ rfl)⟩, trivial⟩⟩
        | 1, _ =>
          clear hx
          (conv => whnf)
          refine loopq (X := Nat) (fun j => j ≤ 0) (fun j => [(74, .int .i64 j), (73, .int .i64 0), (72, .emp true), (4, .str (match j with | 0 => encQ id b 0 [] | _ + 1 => encQ id b 0 [])), (7, .str (fstQ [])), (67, .int .i64 1), (66, .agg [.ptr 0 3, .ptr 0 4, .ptr 0 5])]) (fun j => [.cells false 25 [.int .i64 id, .int .i64 b, .emp true, .emp true, .emp true, .emp true]]) (fun j => 0 - j) ?_ 0 (by omega) ⟨[0], rfl, rfl, ⟨⟨rfl, trivial⟩, ⟨rfl, trivial⟩, ⟨rfl, trivial⟩, ⟨rfl, trivial⟩, ⟨rfl, trivial⟩, ⟨rfl, trivial⟩, ⟨_, rfl, _, _, rfl, ⟨rfl, rfl⟩, _, _, rfl, ⟨rfl, rfl⟩, _, _, rfl, ⟨rfl, rfl⟩, rfl⟩, trivial⟩, ⟨⟨_, rfl, RenL.solid _ (solidsB_ok _ rfl)⟩, trivial⟩⟩
          intro j hj J2 hn2 hx2
          match j, hj with
          | 0, _ =>
            clear hn2
            (conv => whnf)
            refine hx2 _ _ _ (by intro e; cases e) ?_
            clear hx2
            (conv => whnf)
            refine hn 2 _ _ (by omega) (by omega) ⟨[0], rfl, rfl, ⟨⟨rfl, trivial⟩, ⟨_, rfl, _, _, rfl, ⟨rfl, rfl⟩, _, _, rfl, ⟨rfl, rfl⟩, _, _, rfl, ⟨rfl, rfl⟩, rfl⟩, ⟨rfl, trivial⟩, ⟨rfl, trivial⟩, trivial⟩, ⟨⟨_, rfl, RenL.solid _ (solidsB_ok _ rfl)⟩, trivial⟩⟩
        | 2, _ =>
          clear hx
          (conv => whnf)
          refine loopq (X := Nat) (fun j => j ≤ 0) (fun j => [(74, .int .i64 j), (73, .int .i64 0), (72, .emp true), (4, .str (match j with | 0 => encQ id b 0 [] | _ + 1 => encQ id b 0 [])), (7, .str (fstQ [])), (67, .int .i64 2), (66, .agg [.ptr 0 3, .ptr 0 4, .ptr 0 5])]) (fun j => [.cells false 25 [.int .i64 id, .int .i64 b, .emp true, .emp true, .emp true, .emp true]]) (fun j => 0 - j) ?_ 0 (by omega) ⟨[0], rfl, rfl, ⟨⟨rfl, trivial⟩, ⟨rfl, trivial⟩, ⟨rfl, trivial⟩, ⟨rfl, trivial⟩, ⟨rfl, trivial⟩, ⟨rfl, trivial⟩, ⟨_, rfl, _, _, rfl, ⟨rfl, rfl⟩, _, _, rfl, ⟨rfl, rfl⟩, _, _, rfl, ⟨rfl, rfl⟩, rfl⟩, trivial⟩, ⟨⟨_, rfl, RenL.solid _ (solidsB_ok _ rfl)⟩, trivial⟩⟩
          intro j hj J2 hn2 hx2
          match j, hj with
          | 0, _ =>
            clear hn2
            (conv => whnf)
            refine hx2 _ _ _ (by intro e; cases e) ?_
            clear hx2
            (conv => whnf)
            refine hn 3 _ _ (by omega) (by omega) ⟨[0], rfl, rfl, ⟨⟨rfl, trivial⟩, ⟨_, rfl, _, _, rfl, ⟨rfl, rfl⟩, _, _, rfl, ⟨rfl, rfl⟩, _, _, rfl, ⟨rfl, rfl⟩, rfl⟩, ⟨congrArg AV.str hE, trivial⟩, ⟨rfl, trivial⟩, trivial⟩, ⟨⟨_, rfl, RenL.solid _ (solidsB_ok _ rfl)⟩, trivial⟩⟩
        | 3, _ =>
          clear hn
          (conv => whnf)
          refine hx _ _ _ (by intro e; cases e) ?_
          clear hx
          (conv => whnf)
          refine tst (fun h6 => ?_) (fun h6 => ?_)
          · have h6' : decide (65535 < E.length) = true := by
              have h5a : decide ((65535 : Int) < (E.length : Int)) = true := h6
              simp only [decide_eq_true_eq] at h5a ⊢; omega
            rw [h6'] at hR
            subst hR
            (conv => whnf)
            (refine ⟨_, _, rfl, ?_, ⟨_, _, rfl, ?_, rfl⟩⟩) <;> (conv => whnf)
            all_goals first | rfl | exact ⟨rfl, trivial⟩ | exact ⟨rfl, rfl⟩
          · have h6' : decide (65535 < E.length) = false := by
              have h5a : decide ((65535 : Int) < (E.length : Int)) = false := h6
              simp only [decide_eq_false_iff_not] at h5a ⊢; omega
            rw [h6'] at hR
            subst hR
            (conv => whnf)
            (refine ⟨_, _, rfl, ?_, ⟨_, _, rfl, ?_, rfl⟩⟩) <;> (conv => whnf)
            all_goals first | rfl | exact ⟨rfl, trivial⟩ | exact ⟨rfl, rfl⟩
  · rename_i id b a c2 t d
    simp only [Option.some.injEq, Prod.mk.injEq, true_and, decide_eq_true_eq, Bool.and_eq_true] at hg
    obtain ⟨hc, rfl⟩ := hg
    have hln : True := trivial
    have hld : d.length ≤ 1099511627776 := hc
    refine ⟨(by simp [Solids, Solid, Solidss]), ?_⟩
    generalize hR : encS id b [] [⟨[0], a, c2, t, d⟩] = R
    unfold encS at hR
    (conv => whnf)
    refine obl (show (qsOk (.emp true) && true && true && rrsOk2 (.row 5 [[.str [0], .int .i64 a, .int .i64 c2, .int .i64 t, .str d]])) = true from ?_) ?_
    · show ((true && decide ((1 : Nat) ≤ 1099511627776) && (okR ⟨[0], a, c2, t, d⟩ && true) && true)) = true; unfold okR; rw [decide_eq_true (show d.length ≤ 1099511627776 from hld)]; rfl
    (conv => whnf)
    refine tst (fun h1 => ?_) (fun h1 => ?_)
    · have h1' : ¬ chkM ⟨id, b, [], [], [], [⟨[0], a, c2, t, d⟩]⟩ = true := by
        have h1a : (!chkM ⟨id, b, [], [], [], [⟨[0], a, c2, t, d⟩]⟩) = true := h1
        simpa using h1a
      rw [if_neg h1'] at hR
      subst hR
      (conv => whnf)
      (refine ⟨_, _, rfl, ?_, ⟨_, _, rfl, ?_, rfl⟩⟩) <;> (conv => whnf)
      all_goals first | rfl | exact ⟨rfl, trivial⟩ | exact ⟨rfl, rfl⟩
    have h1' : chkM ⟨id, b, [], [], [], [⟨[0], a, c2, t, d⟩]⟩ = true := by
      have h1a : (!chkM ⟨id, b, [], [], [], [⟨[0], a, c2, t, d⟩]⟩) = false := h1
      simpa using h1a
    rw [if_pos h1'] at hR
    clear h1 h1'
    (conv => whnf)
    refine obl (ob (put2_len _) (put2_len _) (by decide)) ?_
    (conv => whnf)
    refine obl (ob (la (put2_len _) (put2_len _)) (put2_len _) (by decide)) ?_
    (conv => whnf)
    refine loopq (X := Nat) (fun i => i ≤ 3) (fun i => [(30, .int .i64 i), (29, .agg [.ptr 0 3, .ptr 0 4, .ptr 0 5]), (1, .ptr 0 0), (4, .str (encH id b 0 1 i))]) (fun i => [.cells false 25 [.int .i64 id, .int .i64 b, .emp true, .emp true, .emp true, .row 5 [[.str [0], .int .i64 a, .int .i64 c2, .int .i64 t, .str d]]]]) (fun i => 3 - i) ?_ 0 (by omega) ⟨[0], rfl, rfl, ⟨⟨rfl, trivial⟩, ⟨_, rfl, _, _, rfl, ⟨rfl, rfl⟩, _, _, rfl, ⟨rfl, rfl⟩, _, _, rfl, ⟨rfl, rfl⟩, rfl⟩, ⟨rfl, rfl⟩, ⟨rfl, trivial⟩, trivial⟩, ⟨⟨_, rfl, RenL.solid _ (solidsB_ok _ rfl)⟩, trivial⟩⟩
    intro i hi J hn hx
    match i, hi with
    | 0, _ =>
      (conv => whnf)
      refine obl (ob (encH_len _ _ _ _ _) (put2_len _) (by decide)) ?_
      (conv => whnf)
      refine hn 1 _ _ (by omega) (by omega) ⟨[0], rfl, rfl, ⟨⟨rfl, trivial⟩, ⟨_, rfl, _, _, rfl, ⟨rfl, rfl⟩, _, _, rfl, ⟨rfl, rfl⟩, _, _, rfl, ⟨rfl, rfl⟩, rfl⟩, ⟨rfl, rfl⟩, ⟨rfl, trivial⟩, trivial⟩, ⟨⟨_, rfl, RenL.solid _ (solidsB_ok _ rfl)⟩, trivial⟩⟩
    | 1, _ =>
      (conv => whnf)
      refine obl (ob (encH_len _ _ _ _ _) (put2_len _) (by decide)) ?_
      (conv => whnf)
      refine hn 2 _ _ (by omega) (by omega) ⟨[0], rfl, rfl, ⟨⟨rfl, trivial⟩, ⟨_, rfl, _, _, rfl, ⟨rfl, rfl⟩, _, _, rfl, ⟨rfl, rfl⟩, _, _, rfl, ⟨rfl, rfl⟩, rfl⟩, ⟨rfl, rfl⟩, ⟨rfl, trivial⟩, trivial⟩, ⟨⟨_, rfl, RenL.solid _ (solidsB_ok _ rfl)⟩, trivial⟩⟩
    | 2, _ =>
      (conv => whnf)
      refine obl (ob (encH_len _ _ _ _ _) (put2_len _) (by decide)) ?_
      (conv => whnf)
      refine hn 3 _ _ (by omega) (by omega) ⟨[0], rfl, rfl, ⟨⟨rfl, trivial⟩, ⟨_, rfl, _, _, rfl, ⟨rfl, rfl⟩, _, _, rfl, ⟨rfl, rfl⟩, _, _, rfl, ⟨rfl, rfl⟩, rfl⟩, ⟨rfl, rfl⟩, ⟨rfl, trivial⟩, trivial⟩, ⟨⟨_, rfl, RenL.solid _ (solidsB_ok _ rfl)⟩, trivial⟩⟩
    | 3, _ =>
      clear hn
      (conv => whnf)
      refine hx _ _ _ (by intro e; cases e) ?_
      clear hx
      (conv => whnf)
      refine loopq (X := Nat) (fun i => i ≤ 0) (fun i => [(44, .int .i64 i), (43, .int .i64 0), (42, .emp true), (1, .ptr 0 0), (4, .str (match i with | 0 => encH id b 0 1 3 | _ + 1 => encQ id b 1 [])), (7, .str (match i with | 0 => [0] | _ + 1 => fstQ []))]) (fun i => [.cells false 25 [.int .i64 id, .int .i64 b, .emp true, .emp true, .emp true, .row 5 [[.str [0], .int .i64 a, .int .i64 c2, .int .i64 t, .str d]]]]) (fun i => 0 - i) ?_ 0 (by omega) ⟨[0], rfl, rfl, ⟨⟨rfl, trivial⟩, ⟨rfl, trivial⟩, ⟨rfl, trivial⟩, ⟨rfl, rfl⟩, ⟨rfl, trivial⟩, ⟨rfl, trivial⟩, trivial⟩, ⟨⟨_, rfl, RenL.solid _ (solidsB_ok _ rfl)⟩, trivial⟩⟩
      intro i hi J hn hx
      match i, hi with
      | 0, _ =>
        clear hn
        (conv => whnf)
        refine hx _ _ _ (by intro e; cases e) ?_
        clear hx
        (conv => whnf)
        have hlq : (encQ id b 1 []).length ≤ 1099511627792 := Nat.le_trans (encH_len _ _ _ _ 3) (by omega)
        have hla : (encA id b [] [⟨[0], a, c2, t, d⟩]).length ≤ 2199023255600 := by
          show (bif decide (65535 < (encQ id b 1 []).length) then encQ id b 1 [] else encQ id b 1 [] ++ encR (fstQ []) 12 ⟨[0], a, c2, t, d⟩).length ≤ _
          have := encR_len (fstQ []) 12 ⟨[0], a, c2, t, d⟩ hld
          cases decide (65535 < (encQ id b 1 []).length)
          · rw [cond_false, List.length_append]; omega
          · rw [cond_true]; omega
        generalize hE : encA id b [] [⟨[0], a, c2, t, d⟩] = E at *
        refine loopq (X := Nat) (fun i => i ≤ 3) (fun i => [(67, .int .i64 i), (66, .agg [.ptr 0 3, .ptr 0 4, .ptr 0 5]), (4, .str (match i with | 0 | 1 | 2 => encQ id b 1 [] | _ + 3 => E)), (7, .str (fstQ []))]) (fun i => [.cells false 25 [.int .i64 id, .int .i64 b, .emp true, .emp true, .emp true, .row 5 [[.str [0], .int .i64 a, .int .i64 c2, .int .i64 t, .str d]]]]) (fun i => 3 - i) ?_ 0 (by omega) ⟨[0], rfl, rfl, ⟨⟨rfl, trivial⟩, ⟨_, rfl, _, _, rfl, ⟨rfl, rfl⟩, _, _, rfl, ⟨rfl, rfl⟩, _, _, rfl, ⟨rfl, rfl⟩, rfl⟩, ⟨rfl, trivial⟩, ⟨rfl, trivial⟩, trivial⟩, ⟨⟨_, rfl, RenL.solid _ (solidsB_ok _ rfl)⟩, trivial⟩⟩
        intro i hi J hn hx
        match i, hi with
        | 0, _ =>
          clear hx
          (conv => whnf)
          refine loopq (X := Nat) (fun j => j ≤ 0) (fun j => [(74, .int .i64 j), (73, .int .i64 0), (72, .emp true), (4, .str (match j with | 0 => encQ id b 1 [] | _ + 1 => encQ id b 1 [])), (7, .str (fstQ [])), (67, .int .i64 0), (66, .agg [.ptr 0 3, .ptr 0 4, .ptr 0 5])]) (fun j => [.cells false 25 [.int .i64 id, .int .i64 b, .emp true, .emp true, .emp true, .row 5 [[.str [0], .int .i64 a, .int .i64 c2, .int .i64 t, .str d]]]]) (fun j => 0 - j) ?_ 0 (by omega) ⟨[0], rfl, rfl, ⟨⟨rfl, trivial⟩, ⟨rfl, trivial⟩, ⟨rfl, trivial⟩, ⟨rfl, trivial⟩, ⟨rfl, trivial⟩, ⟨rfl, trivial⟩, ⟨_, rfl, _, _, rfl, ⟨rfl, rfl⟩, _, _, rfl, ⟨rfl, rfl⟩, _, _, rfl, ⟨rfl, rfl⟩, rfl⟩, trivial⟩, ⟨⟨_, rfl, RenL.solid _ (solidsB_ok _ rfl)⟩, trivial⟩⟩
          intro j hj J2 hn2 hx2
          match j, hj with
          | 0, _ =>
            clear hn2
            (conv => whnf)
            refine hx2 _ _ _ (by intro e; cases e) ?_
            clear hx2
            (conv => whnf)
            refine hn 1 _ _ (by omega) (by omega) ⟨[0], rfl, rfl, ⟨⟨rfl, trivial⟩, ⟨_, rfl, _, _, rfl, ⟨rfl, rfl⟩, _, _, rfl, ⟨rfl, rfl⟩, _, _, rfl, ⟨rfl, rfl⟩, rfl⟩, ⟨rfl, trivial⟩, ⟨rfl, trivial⟩, trivial⟩, ⟨⟨_, rfl, RenL.solid _ (solidsB_ok _ rfl)⟩, trivial⟩⟩
        | 1, _ =>
          clear hx
          (conv => whnf)
          refine loopq (X := Nat) (fun j => j ≤ 0) (fun j => [(74, .int .i64 j), (73, .int .i64 0), (72, .emp true), (4, .str (match j with | 0 => encQ id b 1 [] | _ + 1 => encQ id b 1 [])), (7, .str (fstQ [])), (67, .int .i64 1), (66, .agg [.ptr 0 3, .ptr 0 4, .ptr 0 5])]) (fun j => [.cells false 25 [.int .i64 id, .int .i64 b, .emp true, .emp true, .emp true, .row 5 [[.str [0], .int .i64 a, .int .i64 c2, .int .i64 t, .str d]]]]) (fun j => 0 - j) ?_ 0 (by omega) ⟨[0], rfl, rfl, ⟨⟨rfl, trivial⟩, ⟨rfl, trivial⟩, ⟨rfl, trivial⟩, ⟨rfl, trivial⟩, ⟨rfl, trivial⟩, ⟨rfl, trivial⟩, ⟨_, rfl, _, _, rfl, ⟨rfl, rfl⟩, _, _, rfl, ⟨rfl, rfl⟩, _, _, rfl, ⟨rfl, rfl⟩, rfl⟩, trivial⟩, ⟨⟨_, rfl, RenL.solid _ (solidsB_ok _ rfl)⟩, trivial⟩⟩
          intro j hj J2 hn2 hx2
          match j, hj with
          | 0, _ =>
            clear hn2
            (conv => whnf)
            refine hx2 _ _ _ (by intro e; cases e) ?_
            clear hx2
            (conv => whnf)
            refine hn 2 _ _ (by omega) (by omega) ⟨[0], rfl, rfl, ⟨⟨rfl, trivial⟩, ⟨_, rfl, _, _, rfl, ⟨rfl, rfl⟩, _, _, rfl, ⟨rfl, rfl⟩, _, _, rfl, ⟨rfl, rfl⟩, rfl⟩, ⟨rfl, trivial⟩, ⟨rfl, trivial⟩, trivial⟩, ⟨⟨_, rfl, RenL.solid _ (solidsB_ok _ rfl)⟩, trivial⟩⟩
        | 2, _ =>
          clear hx
          (conv => whnf)
          refine loopq (X := Nat) (fun j => j ≤ 1) (fun j => [(74, .int .i64 j), (73, .int .i64 1), (72, .row 5 [[.str [0], .int .i64 a, .int .i64 c2, .int .i64 t, .str d]]), (4, .str (match j with | 0 => encQ id b 1 [] | _ + 1 => E)), (7, .str (fstQ [])), (67, .int .i64 2), (66, .agg [.ptr 0 3, .ptr 0 4, .ptr 0 5])]) (fun j => [.cells false 25 [.int .i64 id, .int .i64 b, .emp true, .emp true, .emp true, .row 5 [[.str [0], .int .i64 a, .int .i64 c2, .int .i64 t, .str d]]]]) (fun j => 1 - j) ?_ 0 (by omega) ⟨[0], rfl, rfl, ⟨⟨rfl, trivial⟩, ⟨rfl, trivial⟩, ⟨rfl, solidB_ok _ rfl⟩, ⟨rfl, trivial⟩, ⟨rfl, trivial⟩, ⟨rfl, trivial⟩, ⟨_, rfl, _, _, rfl, ⟨rfl, rfl⟩, _, _, rfl, ⟨rfl, rfl⟩, _, _, rfl, ⟨rfl, rfl⟩, rfl⟩, trivial⟩, ⟨⟨_, rfl, RenL.solid _ (solidsB_ok _ rfl)⟩, trivial⟩⟩
          intro j hj J2 hn2 hx2
          match j, hj with
          | 0, _ =>
            (conv => whnf)
            refine tst (fun h5 => ?_) (fun h5 => ?_)
            · have h5' : decide (65535 < (encQ id b 1 []).length) = true := by
                have h5a : decide ((65535 : Int) < ((encQ id b 1 []).length : Int)) = true := h5
                simp only [decide_eq_true_eq] at h5a ⊢; omega
              have hEE : encQ id b 1 [] = E := by
                rw [← hE]; show _ = (bif decide (65535 < (encQ id b 1 []).length) then encQ id b 1 [] else encQ id b 1 [] ++ encR (fstQ []) 12 ⟨[0], a, c2, t, d⟩)
                rw [h5']; rfl
              (conv => whnf)
              refine hx2 _ _ _ (by intro e; cases e) ?_
              (conv => whnf)
              refine hn 3 _ _ (by omega) (by omega) ⟨[0], rfl, rfl, ⟨⟨rfl, trivial⟩, ⟨_, rfl, _, _, rfl, ⟨rfl, rfl⟩, _, _, rfl, ⟨rfl, rfl⟩, _, _, rfl, ⟨rfl, rfl⟩, rfl⟩, ⟨congrArg AV.str hEE, trivial⟩, ⟨rfl, trivial⟩, trivial⟩, ⟨⟨_, rfl, RenL.solid _ (solidsB_ok _ rfl)⟩, trivial⟩⟩
            · have h5' : decide (65535 < (encQ id b 1 []).length) = false := by
                have h5a : decide ((65535 : Int) < ((encQ id b 1 []).length : Int)) = false := h5
                simp only [decide_eq_false_iff_not] at h5a ⊢; omega
              have hEE : encQ id b 1 [] ++ encR (fstQ []) 12 ⟨[0], a, c2, t, d⟩ = E := by
                rw [← hE]; show _ = (bif decide (65535 < (encQ id b 1 []).length) then encQ id b 1 [] else encQ id b 1 [] ++ encR (fstQ []) 12 ⟨[0], a, c2, t, d⟩)
                rw [h5']; rfl
              (conv => whnf)
              refine obl (decide_eq_true hld) ?_
              (conv => whnf)
              refine obl (ob hlq (encR_len _ _ _ hld) (by decide)) ?_
              (conv => whnf)
              refine hn2 1 _ _ (by omega) (by omega) ⟨[0], rfl, rfl, ⟨⟨rfl, trivial⟩, ⟨rfl, trivial⟩, ⟨rfl, solidB_ok _ rfl⟩, ⟨congrArg AV.str hEE, trivial⟩, ⟨rfl, trivial⟩, ⟨rfl, trivial⟩, ⟨_, rfl, _, _, rfl, ⟨rfl, rfl⟩, _, _, rfl, ⟨rfl, rfl⟩, _, _, rfl, ⟨rfl, rfl⟩, rfl⟩, trivial⟩, ⟨⟨_, rfl, RenL.solid _ (solidsB_ok _ rfl)⟩, trivial⟩⟩
          | 1, _ =>
            clear hn2
            (conv => whnf)
            refine hx2 _ _ _ (by intro e; cases e) ?_
            clear hx2
            (conv => whnf)
            refine hn 3 _ _ (by omega) (by omega) ⟨[0], rfl, rfl, ⟨⟨rfl, trivial⟩, ⟨_, rfl, _, _, rfl, ⟨rfl, rfl⟩, _, _, rfl, ⟨rfl, rfl⟩, _, _, rfl, ⟨rfl, rfl⟩, rfl⟩, ⟨rfl, trivial⟩, ⟨rfl, trivial⟩, trivial⟩, ⟨⟨_, rfl, RenL.solid _ (solidsB_ok _ rfl)⟩, trivial⟩⟩
        | 3, _ =>
          clear hn
          (conv => whnf)
          refine hx _ _ _ (by intro e; cases e) ?_
          clear hx
          (conv => whnf)
          refine tst (fun h6 => ?_) (fun h6 => ?_)
          · have h6' : decide (65535 < E.length) = true := by
              have h5a : decide ((65535 : Int) < (E.length : Int)) = true := h6
              simp only [decide_eq_true_eq] at h5a ⊢; omega
            rw [h6'] at hR
            subst hR
            (conv => whnf)
            (refine ⟨_, _, rfl, ?_, ⟨_, _, rfl, ?_, rfl⟩⟩) <;> (conv => whnf)
            all_goals first | rfl | exact ⟨rfl, trivial⟩ | exact ⟨rfl, rfl⟩
          · have h6' : decide (65535 < E.length) = false := by
              have h5a : decide ((65535 : Int) < (E.length : Int)) = false := h6
              simp only [decide_eq_false_iff_not] at h5a ⊢; omega
            rw [h6'] at hR
            subst hR
            (conv => whnf)
            (refine ⟨_, _, rfl, ?_, ⟨_, _, rfl, ?_, rfl⟩⟩) <;> (conv => whnf)
            all_goals first | rfl | exact ⟨rfl, trivial⟩ | exact ⟨rfl, rfl⟩
  · rename_i id b nm k c 
    simp only [Option.some.injEq, Prod.mk.injEq, true_and, decide_eq_true_eq, Bool.and_eq_true] at hg
    obtain ⟨hc, rfl⟩ := hg
    have hln : nm.length ≤ 1099511627776 := hc
    have hld : True := trivial
    refine ⟨(by simp [Solids, Solid, Solidss]), ?_⟩
    generalize hR : encS id b [⟨nm, k, c⟩] [] = R
    unfold encS at hR
    (conv => whnf)
    refine obl (show (qsOk (.row 3 [[.str nm, .int .i64 k, .int .i64 c]]) && true && true && rrsOk2 (.emp true)) = true from ?_) ?_
    · rfl
    (conv => whnf)
    refine tst (fun h1 => ?_) (fun h1 => ?_)
    · have h1' : ¬ chkM ⟨id, b, [⟨nm, k, c⟩], [], [], []⟩ = true := by
        have h1a : (!chkM ⟨id, b, [⟨nm, k, c⟩], [], [], []⟩) = true := h1
        simpa using h1a
      rw [if_neg h1'] at hR
      subst hR
      (conv => whnf)
      (refine ⟨_, _, rfl, ?_, ⟨_, _, rfl, ?_, rfl⟩⟩) <;> (conv => whnf)
      all_goals first | rfl | exact ⟨rfl, trivial⟩ | exact ⟨rfl, rfl⟩
    have h1' : chkM ⟨id, b, [⟨nm, k, c⟩], [], [], []⟩ = true := by
      have h1a : (!chkM ⟨id, b, [⟨nm, k, c⟩], [], [], []⟩) = false := h1
      simpa using h1a
    rw [if_pos h1'] at hR
    clear h1 h1'
    (conv => whnf)
    refine obl (ob (put2_len _) (put2_len _) (by decide)) ?_
    (conv => whnf)
    refine obl (ob (la (put2_len _) (put2_len _)) (put2_len _) (by decide)) ?_
    (conv => whnf)
    refine loopq (X := Nat) (fun i => i ≤ 3) (fun i => [(30, .int .i64 i), (29, .agg [.ptr 0 3, .ptr 0 4, .ptr 0 5]), (1, .ptr 0 0), (4, .str (encH id b 1 0 i))]) (fun i => [.cells false 25 [.int .i64 id, .int .i64 b, .row 3 [[.str nm, .int .i64 k, .int .i64 c]], .emp true, .emp true, .emp true]]) (fun i => 3 - i) ?_ 0 (by omega) ⟨[0], rfl, rfl, ⟨⟨rfl, trivial⟩, ⟨_, rfl, _, _, rfl, ⟨rfl, rfl⟩, _, _, rfl, ⟨rfl, rfl⟩, _, _, rfl, ⟨rfl, rfl⟩, rfl⟩, ⟨rfl, rfl⟩, ⟨rfl, trivial⟩, trivial⟩, ⟨⟨_, rfl, RenL.solid _ (solidsB_ok _ rfl)⟩, trivial⟩⟩
    intro i hi J hn hx
    match i, hi with
    | 0, _ =>
      (conv => whnf)
      refine obl (ob (encH_len _ _ _ _ _) (put2_len _) (by decide)) ?_
      (conv => whnf)
      refine hn 1 _ _ (by omega) (by omega) ⟨[0], rfl, rfl, ⟨⟨rfl, trivial⟩, ⟨_, rfl, _, _, rfl, ⟨rfl, rfl⟩, _, _, rfl, ⟨rfl, rfl⟩, _, _, rfl, ⟨rfl, rfl⟩, rfl⟩, ⟨rfl, rfl⟩, ⟨rfl, trivial⟩, trivial⟩, ⟨⟨_, rfl, RenL.solid _ (solidsB_ok _ rfl)⟩, trivial⟩⟩
    | 1, _ =>
      (conv => whnf)
      refine obl (ob (encH_len _ _ _ _ _) (put2_len _) (by decide)) ?_
      (conv => whnf)
      refine hn 2 _ _ (by omega) (by omega) ⟨[0], rfl, rfl, ⟨⟨rfl, trivial⟩, ⟨_, rfl, _, _, rfl, ⟨rfl, rfl⟩, _, _, rfl, ⟨rfl, rfl⟩, _, _, rfl, ⟨rfl, rfl⟩, rfl⟩, ⟨rfl, rfl⟩, ⟨rfl, trivial⟩, trivial⟩, ⟨⟨_, rfl, RenL.solid _ (solidsB_ok _ rfl)⟩, trivial⟩⟩
    | 2, _ =>
      (conv => whnf)
      refine obl (ob (encH_len _ _ _ _ _) (put2_len _) (by decide)) ?_
      (conv => whnf)
      refine hn 3 _ _ (by omega) (by omega) ⟨[0], rfl, rfl, ⟨⟨rfl, trivial⟩, ⟨_, rfl, _, _, rfl, ⟨rfl, rfl⟩, _, _, rfl, ⟨rfl, rfl⟩, _, _, rfl, ⟨rfl, rfl⟩, rfl⟩, ⟨rfl, rfl⟩, ⟨rfl, trivial⟩, trivial⟩, ⟨⟨_, rfl, RenL.solid _ (solidsB_ok _ rfl)⟩, trivial⟩⟩
    | 3, _ =>
      clear hn
      (conv => whnf)
      refine hx _ _ _ (by intro e; cases e) ?_
      clear hx
      (conv => whnf)
      refine loopq (X := Nat) (fun i => i ≤ 1) (fun i => [(44, .int .i64 i), (43, .int .i64 1), (42, .row 3 [[.str nm, .int .i64 k, .int .i64 c]]), (1, .ptr 0 0), (4, .str (match i with | 0 => encH id b 1 0 3 | _ + 1 => encQ id b 0 [⟨nm, k, c⟩])), (7, .str (match i with | 0 => [0] | _ + 1 => fstQ [⟨nm, k, c⟩]))]) (fun i => [.cells false 25 [.int .i64 id, .int .i64 b, .row 3 [[.str nm, .int .i64 k, .int .i64 c]], .emp true, .emp true, .emp true]]) (fun i => 1 - i) ?_ 0 (by omega) ⟨[0], rfl, rfl, ⟨⟨rfl, trivial⟩, ⟨rfl, trivial⟩, ⟨rfl, solidB_ok _ rfl⟩, ⟨rfl, rfl⟩, ⟨rfl, trivial⟩, ⟨rfl, trivial⟩, trivial⟩, ⟨⟨_, rfl, RenL.solid _ (solidsB_ok _ rfl)⟩, trivial⟩⟩
      intro i hi J hn hx
      match i, hi with
      | 0, _ =>
        (conv => whnf)
        refine obl (ob hln (put2_len _) (by decide)) ?_
        (conv => whnf)
        refine obl (ob (la hln (put2_len _)) (put2_len _) (by decide)) ?_
        (conv => whnf)
        refine obl (ob (encH_len _ _ _ _ _) (la (la hln (put2_len _)) (put2_len _)) (by decide)) ?_
        (conv => whnf)
        refine hn 1 _ _ (by omega) (by omega) ⟨[0], rfl, rfl, ⟨⟨rfl, trivial⟩, ⟨rfl, trivial⟩, ⟨rfl, solidB_ok _ rfl⟩, ⟨rfl, rfl⟩, ⟨rfl, trivial⟩, ⟨rfl, trivial⟩, trivial⟩, ⟨⟨_, rfl, RenL.solid _ (solidsB_ok _ rfl)⟩, trivial⟩⟩
      | 1, _ =>
        clear hn
        (conv => whnf)
        refine hx _ _ _ (by intro e; cases e) ?_
        clear hx
        (conv => whnf)
        have hlq : (encQ id b 0 [⟨nm, k, c⟩]).length ≤ 1099511627792 := la (encH_len _ _ _ _ 3) (la (la hln (put2_len _)) (put2_len _))
        have hla : (encA id b [⟨nm, k, c⟩] []).length ≤ 2199023255600 := Nat.le_trans hlq (by omega)
        generalize hE : encA id b [⟨nm, k, c⟩] [] = E at *
        refine loopq (X := Nat) (fun i => i ≤ 3) (fun i => [(67, .int .i64 i), (66, .agg [.ptr 0 3, .ptr 0 4, .ptr 0 5]), (4, .str (match i with | 0 | 1 | 2 => encQ id b 0 [⟨nm, k, c⟩] | _ + 3 => E)), (7, .str (fstQ [⟨nm, k, c⟩]))]) (fun i => [.cells false 25 [.int .i64 id, .int .i64 b, .row 3 [[.str nm, .int .i64 k, .int .i64 c]], .emp true, .emp true, .emp true]]) (fun i => 3 - i) ?_ 0 (by omega) ⟨[0], rfl, rfl, ⟨⟨rfl, trivial⟩, ⟨_, rfl, _, _, rfl, ⟨rfl, rfl⟩, _, _, rfl, ⟨rfl, rfl⟩, _, _, rfl, ⟨rfl, rfl⟩, rfl⟩, ⟨rfl, trivial⟩, ⟨rfl, trivial⟩, trivial⟩, ⟨⟨_, rfl, RenL.solid _ (solidsB_ok _ rfl)⟩, trivial⟩⟩
        intro i hi J hn hx
        match i, hi with
        | 0, _ =>
          clear hx
          (conv => whnf)
          refine loopq (X := Nat) (fun j => j ≤ 0) (fun j => [(74, .int .i64 j), (73, .int .i64 0), (72, .emp true), (4, .str (match j with | 0 => encQ id b 0 [⟨nm, k, c⟩] | _ + 1 => encQ id b 0 [⟨nm, k, c⟩])), (7, .str (fstQ [⟨nm, k, c⟩])), (67, .int .i64 0), (66, .agg [.ptr 0 3, .ptr 0 4, .ptr 0 5])]) (fun j => [.cells false 25 [.int .i64 id, .int .i64 b, .row 3 [[.str nm, .int .i64 k, .int .i64 c]], .emp true, .emp true, .emp true]]) (fun j => 0 - j) ?_ 0 (by omega) ⟨[0], rfl, rfl, ⟨⟨rfl, trivial⟩, ⟨rfl, trivial⟩, ⟨rfl, trivial⟩, ⟨rfl, trivial⟩, ⟨rfl, trivial⟩, ⟨rfl, trivial⟩, ⟨_, rfl, _, _, rfl, ⟨rfl, rfl⟩, _, _, rfl, ⟨rfl, rfl⟩, _, _, rfl, ⟨rfl, rfl⟩, rfl⟩, trivial⟩, ⟨⟨_, rfl, RenL.solid _ (solidsB_ok _ rfl)⟩, trivial⟩⟩
          intro j hj J2 hn2 hx2
          match j, hj with
          | 0, _ =>
            clear hn2
            (conv => whnf)
            refine hx2 _ _ _ (by intro e; cases e) ?_
            clear hx2
            (conv => whnf)
            refine hn 1 _ _ (by omega) (by omega) ⟨[0], rfl, rfl, ⟨⟨rfl, trivial⟩, ⟨_, rfl, _, _, rfl, ⟨rfl, rfl⟩, _, _, rfl, ⟨rfl, rfl⟩, _, _, rfl, ⟨rfl, rfl⟩, rfl⟩, ⟨rfl, trivial⟩, ⟨rfl, trivial⟩, trivial⟩, ⟨⟨_, rfl, RenL.solid _ (solidsB_ok _ rfl)⟩, trivial⟩⟩
        | 1, _ =>
          clear hx
          (conv => whnf)
          refine loopq (X := Nat) (fun j => j ≤ 0) (fun j => [(74, .int .i64 j), (73, .int .i64 0), (72, .emp true), (4, .str (match j with | 0 => encQ id b 0 [⟨nm, k, c⟩] | _ + 1 => encQ id b 0 [⟨nm, k, c⟩])), (7, .str (fstQ [⟨nm, k, c⟩])), (67, .int .i64 1), (66, .agg [.ptr 0 3, .ptr 0 4, .ptr 0 5])]) (fun j => [.cells false 25 [.int .i64 id, .int .i64 b, .row 3 [[.str nm, .int .i64 k, .int .i64 c]], .emp true, .emp true, .emp true]]) (fun j => 0 - j) ?_ 0 (by omega) ⟨[0], rfl, rfl, ⟨⟨rfl, trivial⟩, ⟨rfl, trivial⟩, ⟨rfl, trivial⟩, ⟨rfl, trivial⟩, ⟨rfl, trivial⟩, ⟨rfl, trivial⟩, ⟨_, rfl, _, _, rfl, ⟨rfl, rfl⟩, _, _, rfl, ⟨rfl, rfl⟩, _, _, rfl, ⟨rfl, rfl⟩, rfl⟩, trivial⟩, ⟨⟨_, rfl, RenL.solid _ (solidsB_ok _ rfl)⟩, trivial⟩⟩
          intro j hj J2 hn2 hx2
          match j, hj with
          | 0, _ =>
            clear hn2
            (conv => whnf)
            refine hx2 _ _ _ (by intro e; cases e) ?_
            clear hx2
            (conv => whnf)
            refine hn 2 _ _ (by omega) (by omega) ⟨[0], rfl, rfl, ⟨⟨rfl, trivial⟩, ⟨_, rfl, _, _, rfl, ⟨rfl, rfl⟩, _, _, rfl, ⟨rfl, rfl⟩, _, _, rfl, ⟨rfl, rfl⟩, rfl⟩, ⟨rfl, trivial⟩, ⟨rfl, trivial⟩, trivial⟩, ⟨⟨_, rfl, RenL.solid _ (solidsB_ok _ rfl)⟩, trivial⟩⟩
        | 2, _ =>
          clear hx
          (conv => whnf)
          refine loopq (X := Nat) (fun j => j ≤ 0) (fun j => [(74, .int .i64 j), (73, .int .i64 0), (72, .emp true), (4, .str (match j with | 0 => encQ id b 0 [⟨nm, k, c⟩] | _ + 1 => encQ id b 0 [⟨nm, k, c⟩])), (7, .str (fstQ [⟨nm, k, c⟩])), (67, .int .i64 2), (66, .agg [.ptr 0 3, .ptr 0 4, .ptr 0 5])]) (fun j => [.cells false 25 [.int .i64 id, .int .i64 b, .row 3 [[.str nm, .int .i64 k, .int .i64 c]], .emp true, .emp true, .emp true]]) (fun j => 0 - j) ?_ 0 (by omega) ⟨[0], rfl, rfl, ⟨⟨rfl, trivial⟩, ⟨rfl, trivial⟩, ⟨rfl, trivial⟩, ⟨rfl, trivial⟩, ⟨rfl, trivial⟩, ⟨rfl, trivial⟩, ⟨_, rfl, _, _, rfl, ⟨rfl, rfl⟩, _, _, rfl, ⟨rfl, rfl⟩, _, _, rfl, ⟨rfl, rfl⟩, rfl⟩, trivial⟩, ⟨⟨_, rfl, RenL.solid _ (solidsB_ok _ rfl)⟩, trivial⟩⟩
          intro j hj J2 hn2 hx2
          match j, hj with
          | 0, _ =>
            clear hn2
            (conv => whnf)
            refine hx2 _ _ _ (by intro e; cases e) ?_
            clear hx2
            (conv => whnf)
            refine hn 3 _ _ (by omega) (by omega) ⟨[0], rfl, rfl, ⟨⟨rfl, trivial⟩, ⟨_, rfl, _, _, rfl, ⟨rfl, rfl⟩, _, _, rfl, ⟨rfl, rfl⟩, _, _, rfl, ⟨rfl, rfl⟩, rfl⟩, ⟨congrArg AV.str hE, trivial⟩, ⟨rfl, trivial⟩, trivial⟩, ⟨⟨_, rfl, RenL.solid _ (solidsB_ok _ rfl)⟩, trivial⟩⟩
        | 3, _ =>
          clear hn
          (conv => whnf)
          refine hx _ _ _ (by intro e; cases e) ?_
          clear hx
          (conv => whnf)
          refine tst (fun h6 => ?_) (fun h6 => ?_)
          · have h6' : decide (65535 < E.length) = true := by
              have h5a : decide ((65535 : Int) < (E.length : Int)) = true := h6
              simp only [decide_eq_true_eq] at h5a ⊢; omega
            rw [h6'] at hR
            subst hR
            (conv => whnf)
            (refine ⟨_, _, rfl, ?_, ⟨_, _, rfl, ?_, rfl⟩⟩) <;> (conv => whnf)
            all_goals first | rfl | exact ⟨rfl, trivial⟩ | exact ⟨rfl, rfl⟩
          · have h6' : decide (65535 < E.length) = false := by
              have h5a : decide ((65535 : Int) < (E.length : Int)) = false := h6
              simp only [decide_eq_false_iff_not] at h5a ⊢; omega
            rw [h6'] at hR
            subst hR
            (conv => whnf)
            (refine ⟨_, _, rfl, ?_, ⟨_, _, rfl, ?_, rfl⟩⟩) <;> (conv => whnf)
            all_goals first | rfl | exact ⟨rfl, trivial⟩ | exact ⟨rfl, rfl⟩
  · rename_i id b nm k c a c2 t d
    simp only [Option.some.injEq, Prod.mk.injEq, true_and, decide_eq_true_eq, Bool.and_eq_true] at hg
    obtain ⟨hc, rfl⟩ := hg
    have hln : nm.length ≤ 1099511627776 := hc.1
    have hld : d.length ≤ 1099511627776 := hc.2
    refine ⟨(by simp [Solids, Solid, Solidss]), ?_⟩
    generalize hR : encS id b [⟨nm, k, c⟩] [⟨[0], a, c2, t, d⟩] = R
    unfold encS at hR
    (conv => whnf)
    refine obl (show (qsOk (.row 3 [[.str nm, .int .i64 k, .int .i64 c]]) && true && true && rrsOk2 (.row 5 [[.str [0], .int .i64 a, .int .i64 c2, .int .i64 t, .str d]])) = true from ?_) ?_
    · show ((true && decide ((1 : Nat) ≤ 1099511627776) && (okR ⟨[0], a, c2, t, d⟩ && true) && true)) = true; unfold okR; rw [decide_eq_true (show d.length ≤ 1099511627776 from hld)]; rfl
    (conv => whnf)
    refine tst (fun h1 => ?_) (fun h1 => ?_)
    · have h1' : ¬ chkM ⟨id, b, [⟨nm, k, c⟩], [], [], [⟨[0], a, c2, t, d⟩]⟩ = true := by
        have h1a : (!chkM ⟨id, b, [⟨nm, k, c⟩], [], [], [⟨[0], a, c2, t, d⟩]⟩) = true := h1
        simpa using h1a
      rw [if_neg h1'] at hR
      subst hR
      (conv => whnf)
      (refine ⟨_, _, rfl, ?_, ⟨_, _, rfl, ?_, rfl⟩⟩) <;> (conv => whnf)
      all_goals first | rfl | exact ⟨rfl, trivial⟩ | exact ⟨rfl, rfl⟩
    have h1' : chkM ⟨id, b, [⟨nm, k, c⟩], [], [], [⟨[0], a, c2, t, d⟩]⟩ = true := by
      have h1a : (!chkM ⟨id, b, [⟨nm, k, c⟩], [], [], [⟨[0], a, c2, t, d⟩]⟩) = false := h1
      simpa using h1a
    rw [if_pos h1'] at hR
    clear h1 h1'
    (conv => whnf)
    refine obl (ob (put2_len _) (put2_len _) (by decide)) ?_
    (conv => whnf)
    refine obl (ob (la (put2_len _) (put2_len _)) (put2_len _) (by decide)) ?_
    (conv => whnf)
    refine loopq (X := Nat) (fun i => i ≤ 3) (fun i => [(30, .int .i64 i), (29, .agg [.ptr 0 3, .ptr 0 4, .ptr 0 5]), (1, .ptr 0 0), (4, .str (encH id b 1 1 i))]) (fun i => [.cells false 25 [.int .i64 id, .int .i64 b, .row 3 [[.str nm, .int .i64 k, .int .i64 c]], .emp true, .emp true, .row 5 [[.str [0], .int .i64 a, .int .i64 c2, .int .i64 t, .str d]]]]) (fun i => 3 - i) ?_ 0 (by omega) ⟨[0], rfl, rfl, ⟨⟨rfl, trivial⟩, ⟨_, rfl, _, _, rfl, ⟨rfl, rfl⟩, _, _, rfl, ⟨rfl, rfl⟩, _, _, rfl, ⟨rfl, rfl⟩, rfl⟩, ⟨rfl, rfl⟩, ⟨rfl, trivial⟩, trivial⟩, ⟨⟨_, rfl, RenL.solid _ (solidsB_ok _ rfl)⟩, trivial⟩⟩
    intro i hi J hn hx
    match i, hi with
    | 0, _ =>
      (conv => whnf)
      refine obl (ob (encH_len _ _ _ _ _) (put2_len _) (by decide)) ?_
      (conv => whnf)
      refine hn 1 _ _ (by omega) (by omega) ⟨[0], rfl, rfl, ⟨⟨rfl, trivial⟩, ⟨_, rfl, _, _, rfl, ⟨rfl, rfl⟩, _, _, rfl, ⟨rfl, rfl⟩, _, _, rfl, ⟨rfl, rfl⟩, rfl⟩, ⟨rfl, rfl⟩, ⟨rfl, trivial⟩, trivial⟩, ⟨⟨_, rfl, RenL.solid _ (solidsB_ok _ rfl)⟩, trivial⟩⟩
    | 1, _ =>
      (conv => whnf)
      refine obl (ob (encH_len _ _ _ _ _) (put2_len _) (by decide)) ?_
      (conv => whnf)
      refine hn 2 _ _ (by omega) (by omega) ⟨[0], rfl, rfl, ⟨⟨rfl, trivial⟩, ⟨_, rfl, _, _, rfl, ⟨rfl, rfl⟩, _, _, rfl, ⟨rfl, rfl⟩, _, _, rfl, ⟨rfl, rfl⟩, rfl⟩, ⟨rfl, rfl⟩, ⟨rfl, trivial⟩, trivial⟩, ⟨⟨_, rfl, RenL.solid _ (solidsB_ok _ rfl)⟩, trivial⟩⟩
    | 2, _ =>
      (conv => whnf)
      refine obl (ob (encH_len _ _ _ _ _) (put2_len _) (by decide)) ?_
      (conv => whnf)
      refine hn 3 _ _ (by omega) (by omega) ⟨[0], rfl, rfl, ⟨⟨rfl, trivial⟩, ⟨_, rfl, _, _, rfl, ⟨rfl, rfl⟩, _, _, rfl, ⟨rfl, rfl⟩, _, _, rfl, ⟨rfl, rfl⟩, rfl⟩, ⟨rfl, rfl⟩, ⟨rfl, trivial⟩, trivial⟩, ⟨⟨_, rfl, RenL.solid _ (solidsB_ok _ rfl)⟩, trivial⟩⟩
    | 3, _ =>
      clear hn
      (conv => whnf)
      refine hx _ _ _ (by intro e; cases e) ?_
      clear hx
      (conv => whnf)
      refine loopq (X := Nat) (fun i => i ≤ 1) (fun i => [(44, .int .i64 i), (43, .int .i64 1), (42, .row 3 [[.str nm, .int .i64 k, .int .i64 c]]), (1, .ptr 0 0), (4, .str (match i with | 0 => encH id b 1 1 3 | _ + 1 => encQ id b 1 [⟨nm, k, c⟩])), (7, .str (match i with | 0 => [0] | _ + 1 => fstQ [⟨nm, k, c⟩]))]) (fun i => [.cells false 25 [.int .i64 id, .int .i64 b, .row 3 [[.str nm, .int .i64 k, .int .i64 c]], .emp true, .emp true, .row 5 [[.str [0], .int .i64 a, .int .i64 c2, .int .i64 t, .str d]]]]) (fun i => 1 - i) ?_ 0 (by omega) ⟨[0], rfl, rfl, ⟨⟨rfl, trivial⟩, ⟨rfl, trivial⟩, ⟨rfl, solidB_ok _ rfl⟩, ⟨rfl, rfl⟩, ⟨rfl, trivial⟩, ⟨rfl, trivial⟩, trivial⟩, ⟨⟨_, rfl, RenL.solid _ (solidsB_ok _ rfl)⟩, trivial⟩⟩
      intro i hi J hn hx
      match i, hi with
      | 0, _ =>
        (conv => whnf)
        refine obl (ob hln (put2_len _) (by decide)) ?_
        (conv => whnf)
        refine obl (ob (la hln (put2_len _)) (put2_len _) (by decide)) ?_
        (conv => whnf)
        refine obl (ob (encH_len _ _ _ _ _) (la (la hln (put2_len _)) (put2_len _)) (by decide)) ?_
        (conv => whnf)
        refine hn 1 _ _ (by omega) (by omega) ⟨[0], rfl, rfl, ⟨⟨rfl, trivial⟩, ⟨rfl, trivial⟩, ⟨rfl, solidB_ok _ rfl⟩, ⟨rfl, rfl⟩, ⟨rfl, trivial⟩, ⟨rfl, trivial⟩, trivial⟩, ⟨⟨_, rfl, RenL.solid _ (solidsB_ok _ rfl)⟩, trivial⟩⟩
      | 1, _ =>
        clear hn
        (conv => whnf)
        refine hx _ _ _ (by intro e; cases e) ?_
        clear hx
        (conv => whnf)
        have hlq : (encQ id b 1 [⟨nm, k, c⟩]).length ≤ 1099511627792 := la (encH_len _ _ _ _ 3) (la (la hln (put2_len _)) (put2_len _))
        have hla : (encA id b [⟨nm, k, c⟩] [⟨[0], a, c2, t, d⟩]).length ≤ 2199023255600 := by
          show (bif decide (65535 < (encQ id b 1 [⟨nm, k, c⟩]).length) then encQ id b 1 [⟨nm, k, c⟩] else encQ id b 1 [⟨nm, k, c⟩] ++ encR (fstQ [⟨nm, k, c⟩]) 12 ⟨[0], a, c2, t, d⟩).length ≤ _
          have := encR_len (fstQ [⟨nm, k, c⟩]) 12 ⟨[0], a, c2, t, d⟩ hld
          cases decide (65535 < (encQ id b 1 [⟨nm, k, c⟩]).length)
          · rw [cond_false, List.length_append]; omega
          · rw [cond_true]; omega
        generalize hE : encA id b [⟨nm, k, c⟩] [⟨[0], a, c2, t, d⟩] = E at *
        refine loopq (X := Nat) (fun i => i ≤ 3) (fun i => [(67, .int .i64 i), (66, .agg [.ptr 0 3, .ptr 0 4, .ptr 0 5]), (4, .str (match i with | 0 | 1 | 2 => encQ id b 1 [⟨nm, k, c⟩] | _ + 3 => E)), (7, .str (fstQ [⟨nm, k, c⟩]))]) (fun i => [.cells false 25 [.int .i64 id, .int .i64 b, .row 3 [[.str nm, .int .i64 k, .int .i64 c]], .emp true, .emp true, .row 5 [[.str [0], .int .i64 a, .int .i64 c2, .int .i64 t, .str d]]]]) (fun i => 3 - i) ?_ 0 (by omega) ⟨[0], rfl, rfl, ⟨⟨rfl, trivial⟩, ⟨_, rfl, _, _, rfl, ⟨rfl, rfl⟩, _, _, rfl, ⟨rfl, rfl⟩, _, _, rfl, ⟨rfl, rfl⟩, rfl⟩, ⟨rfl, trivial⟩, ⟨rfl, trivial⟩, trivial⟩, ⟨⟨_, rfl, RenL.solid _ (solidsB_ok _ rfl)⟩, trivial⟩⟩
        intro i hi J hn hx
        match i, hi with
        | 0, _ =>
          clear hx
          (conv => whnf)
          refine loopq (X := Nat) (fun j => j ≤ 0) (fun j => [(74, .int .i64 j), (73, .int .i64 0), (72, .emp true), (4, .str (match j with | 0 => encQ id b 1 [⟨nm, k, c⟩] | _ + 1 => encQ id b 1 [⟨nm, k, c⟩])), (7, .str (fstQ [⟨nm, k, c⟩])), (67, .int .i64 0), (66, .agg [.ptr 0 3, .ptr 0 4, .ptr 0 5])]) (fun j => [.cells false 25 [.int .i64 id, .int .i64 b, .row 3 [[.str nm, .int .i64 k, .int .i64 c]], .emp true, .emp true, .row 5 [[.str [0], .int .i64 a, .int .i64 c2, .int .i64 t, .str d]]]]) (fun j => 0 - j) ?_ 0 (by omega) ⟨[0], rfl, rfl, ⟨⟨rfl, trivial⟩, ⟨rfl, trivial⟩, ⟨rfl, trivial⟩, ⟨rfl, trivial⟩, ⟨rfl, trivial⟩, ⟨rfl, trivial⟩, ⟨_, rfl, _, _, rfl, ⟨rfl, rfl⟩, _, _, rfl, ⟨rfl, rfl⟩, _, _, rfl, ⟨rfl, rfl⟩, rfl⟩, trivial⟩, ⟨⟨_, rfl, RenL.solid _ (solidsB_ok _ rfl)⟩, trivial⟩⟩
          intro j hj J2 hn2 hx2
          match j, hj with
          | 0, _ =>
            clear hn2
            (conv => whnf)
            refine hx2 _ _ _ (by intro e; cases e) ?_
            clear hx2
            (conv => whnf)
            refine hn 1 _ _ (by omega) (by omega) ⟨[0], rfl, rfl, ⟨⟨rfl, trivial⟩, ⟨_, rfl, _, _, rfl, ⟨rfl, rfl⟩, _, _, rfl, ⟨rfl, rfl⟩, _, _, rfl, ⟨rfl, rfl⟩, rfl⟩, ⟨rfl, trivial⟩, ⟨rfl, trivial⟩, trivial⟩, ⟨⟨_, rfl, RenL.solid _ (solidsB_ok _ rfl)⟩, trivial⟩⟩
        | 1, _ =>
          clear hx
          (conv => whnf)
          refine loopq (X := Nat) (fun j => j ≤ 0) (fun j => [(74, .int .i64 j), (73, .int .i64 0), (72, .emp true), (4, .str (match j with | 0 => encQ id b 1 [⟨nm, k, c⟩] | _ + 1 => encQ id b 1 [⟨nm, k, c⟩])), (7, .str (fstQ [⟨nm, k, c⟩])), (67, .int .i64 1), (66, .agg [.ptr 0 3, .ptr 0 4, .ptr 0 5])]) (fun j => [.cells false 25 [.int .i64 id, .int .i64 b, .row 3 [[.str nm, .int .i64 k, .int .i64 c]], .emp true, .emp true, .row 5 [[.str [0], .int .i64 a, .int .i64 c2, .int .i64 t, .str d]]]]) (fun j => 0 - j) ?_ 0 (by omega) ⟨[0], rfl, rfl, ⟨⟨rfl, trivial⟩, ⟨rfl, trivial⟩, ⟨rfl, trivial⟩, ⟨rfl, trivial⟩, ⟨rfl, trivial⟩, ⟨rfl, trivial⟩, ⟨_, rfl, _, _, rfl, ⟨rfl, rfl⟩, _, _, rfl, ⟨rfl, rfl⟩, _, _, rfl, ⟨rfl, rfl⟩, rfl⟩, trivial⟩, ⟨⟨_, rfl, RenL.solid _ (solidsB_ok _ rfl)⟩, trivial⟩⟩
          intro j hj J2 hn2 hx2
          match j, hj with
          | 0, _ =>
            clear hn2
            (conv => whnf)
            refine hx2 _ _ _ (by intro e; cases e) ?_
            clear hx2
            (conv => whnf)
            refine hn 2 _ _ (by omega) (by omega) ⟨[0], rfl, rfl, ⟨⟨rfl, trivial⟩, ⟨_, rfl, _, _, rfl, ⟨rfl, rfl⟩, _, _, rfl, ⟨rfl, rfl⟩, _, _, rfl, ⟨rfl, rfl⟩, rfl⟩, ⟨rfl, trivial⟩, ⟨rfl, trivial⟩, trivial⟩, ⟨⟨_, rfl, RenL.solid _ (solidsB_ok _ rfl)⟩, trivial⟩⟩
        | 2, _ =>
          clear hx
          (conv => whnf)
          refine loopq (X := Nat) (fun j => j ≤ 1) (fun j => [(74, .int .i64 j), (73, .int .i64 1), (72, .row 5 [[.str [0], .int .i64 a, .int .i64 c2, .int .i64 t, .str d]]), (4, .str (match j with | 0 => encQ id b 1 [⟨nm, k, c⟩] | _ + 1 => E)), (7, .str (fstQ [⟨nm, k, c⟩])), (67, .int .i64 2), (66, .agg [.ptr 0 3, .ptr 0 4, .ptr 0 5])]) (fun j => [.cells false 25 [.int .i64 id, .int .i64 b, .row 3 [[.str nm, .int .i64 k, .int .i64 c]], .emp true, .emp true, .row 5 [[.str [0], .int .i64 a, .int .i64 c2, .int .i64 t, .str d]]]]) (fun j => 1 - j) ?_ 0 (by omega) ⟨[0], rfl, rfl, ⟨⟨rfl, trivial⟩, ⟨rfl, trivial⟩, ⟨rfl, solidB_ok _ rfl⟩, ⟨rfl, trivial⟩, ⟨rfl, trivial⟩, ⟨rfl, trivial⟩, ⟨_, rfl, _, _, rfl, ⟨rfl, rfl⟩, _, _, rfl, ⟨rfl, rfl⟩, _, _, rfl, ⟨rfl, rfl⟩, rfl⟩, trivial⟩, ⟨⟨_, rfl, RenL.solid _ (solidsB_ok _ rfl)⟩, trivial⟩⟩
          intro j hj J2 hn2 hx2
          match j, hj with
          | 0, _ =>
            (conv => whnf)
            refine tst (fun h5 => ?_) (fun h5 => ?_)
            · have h5' : decide (65535 < (encQ id b 1 [⟨nm, k, c⟩]).length) = true := by
                have h5a : decide ((65535 : Int) < ((encQ id b 1 [⟨nm, k, c⟩]).length : Int)) = true := h5
                simp only [decide_eq_true_eq] at h5a ⊢; omega
              have hEE : encQ id b 1 [⟨nm, k, c⟩] = E := by
                rw [← hE]; show _ = (bif decide (65535 < (encQ id b 1 [⟨nm, k, c⟩]).length) then encQ id b 1 [⟨nm, k, c⟩] else encQ id b 1 [⟨nm, k, c⟩] ++ encR (fstQ [⟨nm, k, c⟩]) 12 ⟨[0], a, c2, t, d⟩)
                rw [h5']; rfl
              (conv => whnf)
              refine hx2 _ _ _ (by intro e; cases e) ?_
              (conv => whnf)
              refine hn 3 _ _ (by omega) (by omega) ⟨[0], rfl, rfl, ⟨⟨rfl, trivial⟩, ⟨_, rfl, _, _, rfl, ⟨rfl, rfl⟩, _, _, rfl, ⟨rfl, rfl⟩, _, _, rfl, ⟨rfl, rfl⟩, rfl⟩, ⟨congrArg AV.str hEE, trivial⟩, ⟨rfl, trivial⟩, trivial⟩, ⟨⟨_, rfl, RenL.solid _ (solidsB_ok _ rfl)⟩, trivial⟩⟩
            · have h5' : decide (65535 < (encQ id b 1 [⟨nm, k, c⟩]).length) = false := by
                have h5a : decide ((65535 : Int) < ((encQ id b 1 [⟨nm, k, c⟩]).length : Int)) = false := h5
                simp only [decide_eq_false_iff_not] at h5a ⊢; omega
              have hEE : encQ id b 1 [⟨nm, k, c⟩] ++ encR (fstQ [⟨nm, k, c⟩]) 12 ⟨[0], a, c2, t, d⟩ = E := by
                rw [← hE]; show _ = (bif decide (65535 < (encQ id b 1 [⟨nm, k, c⟩]).length) then encQ id b 1 [⟨nm, k, c⟩] else encQ id b 1 [⟨nm, k, c⟩] ++ encR (fstQ [⟨nm, k, c⟩]) 12 ⟨[0], a, c2, t, d⟩)
                rw [h5']; rfl
              (conv => whnf)
              refine obl (decide_eq_true hld) ?_
              (conv => whnf)
              refine obl (ob hlq (encR_len _ _ _ hld) (by decide)) ?_
              (conv => whnf)
              refine hn2 1 _ _ (by omega) (by omega) ⟨[0], rfl, rfl, ⟨⟨rfl, trivial⟩, ⟨rfl, trivial⟩, ⟨rfl, solidB_ok _ rfl⟩, ⟨congrArg AV.str hEE, trivial⟩, ⟨rfl, trivial⟩, ⟨rfl, trivial⟩, ⟨_, rfl, _, _, rfl, ⟨rfl, rfl⟩, _, _, rfl, ⟨rfl, rfl⟩, _, _, rfl, ⟨rfl, rfl⟩, rfl⟩, trivial⟩, ⟨⟨_, rfl, RenL.solid _ (solidsB_ok _ rfl)⟩, trivial⟩⟩
          | 1, _ =>
            clear hn2
            (conv => whnf)
            refine hx2 _ _ _ (by intro e; cases e) ?_
            clear hx2
            (conv => whnf)
            refine hn 3 _ _ (by omega) (by omega) ⟨[0], rfl, rfl, ⟨⟨rfl, trivial⟩, ⟨_, rfl, _, _, rfl, ⟨rfl, rfl⟩, _, _, rfl, ⟨rfl, rfl⟩, _, _, rfl, ⟨rfl, rfl⟩, rfl⟩, ⟨rfl, trivial⟩, ⟨rfl, trivial⟩, trivial⟩, ⟨⟨_, rfl, RenL.solid _ (solidsB_ok _ rfl)⟩, trivial⟩⟩
        | 3, _ =>
          clear hn
          (conv => whnf)
          refine hx _ _ _ (by intro e; cases e) ?_
          clear hx
          (conv => whnf)
          refine tst (fun h6 => ?_) (fun h6 => ?_)
          · have h6' : decide (65535 < E.length) = true := by
              have h5a : decide ((65535 : Int) < (E.length : Int)) = true := h6
              simp only [decide_eq_true_eq] at h5a ⊢; omega
            rw [h6'] at hR
            subst hR
            (conv => whnf)
            (refine ⟨_, _, rfl, ?_, ⟨_, _, rfl, ?_, rfl⟩⟩) <;> (conv => whnf)
            all_goals first | rfl | exact ⟨rfl, trivial⟩ | exact ⟨rfl, rfl⟩
          · have h6' : decide (65535 < E.length) = false := by
              have h5a : decide ((65535 : Int) < (E.length : Int)) = false := h6
              simp only [decide_eq_false_iff_not] at h5a ⊢; omega
            rw [h6'] at hR
            subst hR
            (conv => whnf)
            (refine ⟨_, _, rfl, ?_, ⟨_, _, rfl, ?_, rfl⟩⟩) <;> (conv => whnf)
            all_goals first | rfl | exact ⟨rfl, trivial⟩ | exact ⟨rfl, rfl⟩
  · cases hg
end Go.Abs.R
