import Derived.Test.YtaifmmemfmapkaaGreatTj
namespace Go.Abs.R
open Go.Abs Go.Proofs
set_option maxRecDepth 100000
set_option linter.unusedVariables false
set_option linter.unusedSimpArgs false
/-- law17.Own -/
def g15 : List AV → Option (Bool × AV)
  | [.agg [.int .i64 id, .int .i64 b, .str nm, .int .i64 k, .int .i64 c, .bool has, .int .i64 s, .int .i64 e, .int .i64 ve, .bool d]] => some (true, .agg [.int .i64 id, .int .i64 b, .str nm, .int .i64 k, .int .i64 c, .bool has, .int .i64 s, .int .i64 e, .int .i64 ve, .bool d])
  | _ => none
theorem s15 : Spec (EY []) Tryz.f15 g15 := by
  intro args v hg
  unfold g15 at hg
  split at hg
  · rename_i id b nm k c has s e ve d
    simp only [Option.some.injEq, Prod.mk.injEq, true_and, decide_eq_true_eq, Bool.and_eq_true] at hg
    subst hg
    refine ⟨(by simp [Solids, Solid, Solidss]), ?_⟩
    (conv => whnf)
    (refine ⟨_, _, rfl, ?_, ⟨_, _, rfl, ?_, ⟨_, _, rfl, ?_, ⟨_, _, rfl, ?_, ⟨_, _, rfl, ?_, ⟨_, _, rfl, ?_, ⟨_, _, rfl, ?_, ⟨_, _, rfl, ?_, ⟨_, _, rfl, ?_, ⟨_, _, rfl, ?_, rfl⟩⟩⟩⟩⟩⟩⟩⟩⟩⟩) <;> (conv => whnf)
    all_goals first | rfl | exact ⟨rfl, trivial⟩ | exact ⟨rfl, rfl⟩
  · cases hg
def lkV : List Lk → AV
  | [] => .emp true
  | l :: ls => .row 6 ((l :: ls).map lC)
/-- law17.Chain -/
def g16 : List AV → Option (Bool × AV)
  | [.agg [lk, .int .i64 kd, .str zn, .str nm, .int .i64 k, .int .i64 c, ds, .int .i64 x, .int .i64 y]] => some (lksOk lk && dsOk ds && decide ((lksOf lk).length ≤ 1000), .agg [lkV (lksOf lk), .int .i64 kd, .str zn, .str nm, .int .i64 k, .int .i64 c, ds, .int .i64 x, .int .i64 y])
  | _ => none
def lCs (l : List Lk) : List AV := (l.map lC).flatten
theorem lCs_length (l : List Lk) : (lCs l).length = l.length * 6 := by
  induction l with
  | nil => rfl
  | cons q l ih => simp only [lCs, List.map_cons, List.flatten_cons, List.length_append, List.length_cons] at ih ⊢; rw [ih]; simp [lC]; omega
theorem lC_len (l : List Lk) : ∀ x ∈ l.map lC, x.length = 6 := by
  intro x hx
  simp only [List.mem_map] at hx
  obtain ⟨y, _, rfl⟩ := hx; rfl
def SC (i : Nat) : List (Nat × AV) := [(4, .int .i64 i), (1, .ptr 0 0), (2, .ptr 1 0), (3, .ptr 2 0)]
def HC (b : List AV) (r : List AV) : List Lk → Heap
  | [] => [.cells false 51 b, .cells false 58 [.emp true, .int .i64 0, .str [], .str [], .int .i64 0, .int .i64 0, .emp true, .int .i64 0, .int .i64 0], .cells false 58 (.emp true :: r)]
  | l :: ls => [.cells false 51 b, .cells false 58 [.emp true, .int .i64 0, .str [], .str [], .int .i64 0, .int .i64 0, .emp true, .int .i64 0, .int .i64 0], .cells false 58 (.sl 3 6 0 (l :: ls).length :: r), .cells false 56 (lCs (l :: ls))]
set_option maxHeartbeats 1000000 in
theorem s16 : Spec (EY []) Tryz.f16 g16 := by
  intro args v hg
  unfold g16 at hg
  split at hg
  · rename_i lk kd zn nm k c ds x y
    simp only [Option.some.injEq, Prod.mk.injEq, true_and, decide_eq_true_eq, Bool.and_eq_true] at hg
    obtain ⟨⟨⟨hk, hd⟩, h12⟩, rfl⟩ := hg
    have sd := solid_ds hd
    have sk := solid_lks hk
    refine ⟨⟨⟨sk, trivial, trivial, trivial, trivial, trivial, sd, trivial, trivial, trivial⟩, trivial⟩, ?_⟩
    rcases lks_cs hk with ⟨b, rfl, e⟩ | ⟨l, rfl, e, hl, hds⟩
    · rw [e]
      (conv => whnf)
      refine loopq (X := Nat) (fun _ => True) (fun i => SC 0) (fun _ => HC [.emp b, .int .i64 kd, .str zn, .str nm, .int .i64 k, .int .i64 c, ds, .int .i64 x, .int .i64 y] [.int .i64 kd, .str zn, .str nm, .int .i64 k, .int .i64 c, ds, .int .i64 x, .int .i64 y] []) (fun i => 0) ?_ 0 trivial ⟨[0, 1, 2], rfl, rfl, ⟨⟨rfl, trivial⟩, ⟨rfl, rfl⟩, ⟨rfl, rfl⟩, ⟨rfl, rfl⟩, trivial⟩, ⟨⟨_, rfl, RenL.solid _ ⟨sk, trivial, trivial, trivial, trivial, trivial, sd, trivial, trivial, trivial⟩⟩, ⟨_, rfl, RenL.solid _ (solidsB_ok _ rfl)⟩, ⟨_, rfl, RenL.solid _ ⟨trivial, trivial, trivial, trivial, trivial, trivial, sd, trivial, trivial, trivial⟩⟩, trivial⟩⟩
      intro i hi J hn hx
      (conv => whnf)
      refine hx _ _ _ (by intro e; cases e) ?_
      (conv => whnf)
      (refine ⟨_, _, rfl, ?_, ⟨_, _, rfl, ?_, ⟨_, _, rfl, ?_, ⟨_, _, rfl, ?_, ⟨_, _, rfl, ?_, ⟨_, _, rfl, ?_, ⟨_, _, rfl, ?_, ⟨_, _, rfl, ?_, ⟨_, _, rfl, ?_, rfl⟩⟩⟩⟩⟩⟩⟩⟩⟩) <;> (conv => whnf)
      all_goals first | rfl | exact ⟨rfl, trivial⟩ | exact ⟨rfl, rfl⟩ | exact FinQ.solid _ sd
    · rw [e]
      have hl12 : l.length ≤ 1000 := by rw [e] at h12; simpa using h12
      (conv => whnf)
      refine loopq (X := Nat) (fun i => i ≤ l.length) SC (fun i => HC [.row 6 (l.map lC), .int .i64 kd, .str zn, .str nm, .int .i64 k, .int .i64 c, ds, .int .i64 x, .int .i64 y] [.int .i64 kd, .str zn, .str nm, .int .i64 k, .int .i64 c, ds, .int .i64 x, .int .i64 y] (l.take i)) (fun i => l.length - i) ?_ 0 (Nat.zero_le _) ⟨[0, 1, 2], rfl, rfl, ⟨⟨rfl, trivial⟩, ⟨rfl, rfl⟩, ⟨rfl, rfl⟩, ⟨rfl, rfl⟩, trivial⟩, ⟨⟨_, rfl, RenL.solid _ ⟨sk, trivial, trivial, trivial, trivial, trivial, sd, trivial, trivial, trivial⟩⟩, ⟨_, rfl, RenL.solid _ (solidsB_ok _ rfl)⟩, ⟨_, rfl, RenL.solid _ ⟨trivial, trivial, trivial, trivial, trivial, trivial, sd, trivial, trivial, trivial⟩⟩, trivial⟩⟩
      intro i hi J hn hx
      by_cases hil : i < l.length
      · have htk : l.take (i + 1) = l.take i ++ [l[i]'hil] := List.take_succ_eq_append_getElem hil
        have hlen : (l.take i).length = i := by rw [List.length_take]; omega
        have hdi : dsOk (l[i]'hil).ds = true := hds _ (List.getElem_mem hil)
        have hsp : Solidss ((l.take (i + 1)).map lC) := solid_lC _ fun x hx => hds x (List.mem_of_mem_take hx)
        have gd : List.getD (l.map lC) (Int.toNat (i : Int)) [] = lC (l[i]'hil) := by rw [Int.toNat_natCast]; exact lC_get hil
        generalize hLi : (l[i]'hil) = L at *
        generalize hys : l.map lC = ys at *
        have hyl : ys.length = l.length := by rw [← hys, List.length_map]
        have hL6 : Solids (lC L) := ⟨trivial, trivial, trivial, solid_ds hdi, trivial, trivial, trivial⟩
        have hre : ∀ (a : Int), a = (i : Int) → IntKind.i64.wrap (a + 1) = ((i + 1 : Nat) : Int) := fun a e => by rw [e, wr (by omega) (by omega)]; rfl
        cases htl : l.take i with
        | nil =>
          rw [htl] at htk
          (conv => whnf)
          refine tst (fun _ => ?_) (fun h => absurd (h : decide ((i : Int) < (ys.length : Int)) = false) ?_)
          · (conv => whnf)
            refine obl (by simp [idxOk]; omega) ?_
            rw [gd]
            (conv => whnf)
            refine hn (i + 1) _ _ (by omega) (by omega) ?_
            rw [htk]
            refine ⟨[0, 1, 2, 4], rfl, rfl, ⟨⟨congrArg (AV.int .i64) (hre _ rfl), trivial⟩, ⟨rfl, rfl⟩, ⟨rfl, rfl⟩, ⟨rfl, rfl⟩, trivial⟩, ⟨⟨_, rfl, RenL.solid _ ⟨sk, trivial, trivial, trivial, trivial, trivial, sd, trivial, trivial, trivial⟩⟩, ⟨_, rfl, RenL.solid _ (solidsB_ok _ rfl)⟩, ⟨_, rfl, ⟨_, _, rfl, ⟨rfl, rfl⟩, RenL.solid _ ⟨trivial, trivial, trivial, trivial, trivial, sd, trivial, trivial, trivial⟩⟩⟩, ⟨_, rfl, ?_⟩, trivial⟩⟩
            exact renL_eq hL6 rfl
          · rw [decide_eq_false_iff_not]; omega
        | cons a t =>
          rw [htl] at htk hlen
          have tk : List.take ((a :: t).length * 6) (lCs (a :: t)) = lCs (a :: t) := List.take_of_length_le (by rw [lCs_length]; omega)
          (conv => whnf)
          refine tst (fun _ => ?_) (fun h => absurd (h : decide ((i : Int) < (ys.length : Int)) = false) ?_)
          · (conv => whnf)
            refine obl (by simp [idxOk]; omega) ?_
            rw [gd]
            (conv => whnf)
            refine obl ?_ ?_
            · show (true && Nat.beq 56 56 && Nat.beq 6 6 && Nat.beq 0 0 && ((a :: t).length * 6).beq (List.take ((a :: t).length * 6) (lCs (a :: t))).length && roomy ((a :: t).length + 1) 72) = true
              rw [tk, lCs_length]
              simp only [Nat.beq_eq, roomy, Nat.ble_eq, Bool.and_eq_true, true_and, and_true]
              omega
            (conv => whnf)
            refine hn (i + 1) _ _ (by omega) (by omega) ?_
            rw [htk]
            have eL : AV.sl 5 6 0 ((a :: t).length + 1) = AV.sl 5 6 0 (a :: t ++ [L]).length := by rw [List.length_append]; rfl
            refine ⟨[0, 1, 2, 5], rfl, rfl, ⟨⟨congrArg (AV.int .i64) (hre _ rfl), trivial⟩, ⟨rfl, rfl⟩, ⟨rfl, rfl⟩, ⟨rfl, rfl⟩, trivial⟩, ⟨⟨_, rfl, RenL.solid _ ⟨sk, trivial, trivial, trivial, trivial, trivial, sd, trivial, trivial, trivial⟩⟩, ⟨_, rfl, RenL.solid _ (solidsB_ok _ rfl)⟩, ⟨.sl 5 6 0 ((a :: t).length + 1) :: [.int .i64 kd, .str zn, .str nm, .int .i64 k, .int .i64 c, ds, .int .i64 x, .int .i64 y], rfl, ?_⟩, ⟨List.take ((a :: t).length * 6) (lCs (a :: t)) ++ lC L, rfl, ?_⟩, trivial⟩⟩
            · rw [eL]
              exact ⟨_, _, rfl, ⟨rfl, rfl⟩, RenL.solid _ ⟨trivial, trivial, trivial, trivial, trivial, sd, trivial, trivial, trivial⟩⟩
            · rw [tk]
              have hs2 : Solids (lCs (a :: t ++ [L])) := by rw [← htk]; exact solids_flat hsp
              exact renL_eq hs2 (by simp [lCs])
          · rw [decide_eq_false_iff_not]; omega
      · have htk : l.take i = l := List.take_of_length_le (by omega)
        rw [htk]
        have hlR := solid_lC l hds
        have hyl : (l.map lC).length = l.length := List.length_map ..
        cases l with
        | nil =>
          generalize hys : ([] : List Lk).map lC = ys at *
          (conv => whnf)
          refine tst (fun h => absurd (h : decide ((i : Int) < (ys.length : Int)) = true) ?_) (fun _ => ?_)
          · rw [decide_eq_true_eq]; omega
          · (conv => whnf)
            refine hx _ _ _ (by intro e; cases e) ?_
            (conv => whnf)
            (refine ⟨_, _, rfl, ?_, ⟨_, _, rfl, ?_, ⟨_, _, rfl, ?_, ⟨_, _, rfl, ?_, ⟨_, _, rfl, ?_, ⟨_, _, rfl, ?_, ⟨_, _, rfl, ?_, ⟨_, _, rfl, ?_, ⟨_, _, rfl, ?_, rfl⟩⟩⟩⟩⟩⟩⟩⟩⟩) <;> (conv => whnf)
            all_goals first | rfl | exact ⟨rfl, trivial⟩ | exact ⟨rfl, rfl⟩ | exact FinQ.solid _ sd
        | cons a t =>
          generalize hys : (a :: t).map lC = ys at *
          (conv => whnf)
          refine tst (fun h => absurd (h : decide ((i : Int) < (ys.length : Int)) = true) ?_) (fun _ => ?_)
          · rw [decide_eq_true_eq]; omega
          · (conv => whnf)
            refine hx _ _ _ (by intro e; cases e) ?_
            (conv => whnf)
            (refine ⟨_, _, rfl, ?_, ⟨_, _, rfl, ?_, ⟨_, _, rfl, ?_, ⟨_, _, rfl, ?_, ⟨_, _, rfl, ?_, ⟨_, _, rfl, ?_, ⟨_, _, rfl, ?_, ⟨_, _, rfl, ?_, ⟨_, _, rfl, ?_, rfl⟩⟩⟩⟩⟩⟩⟩⟩⟩) <;> (conv => whnf)
            all_goals first | rfl | exact ⟨rfl, trivial⟩ | exact ⟨rfl, rfl⟩ | exact FinQ.solid _ sd | skip
            exact ⟨rfl, by simp, by show 0 + (a :: t).length * 6 ≤ (lCs (a :: t)).length; rw [lCs_length]; omega, finRQ_any (solid_lC _ hds) (lC_len _) rfl⟩
  · cases hg
end Go.Abs.R
