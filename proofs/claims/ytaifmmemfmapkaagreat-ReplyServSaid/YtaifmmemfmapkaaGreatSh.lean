import Derived.Test.YtaifmmemfmapkaaGreatSg
namespace Go.Abs.R
open Go.Abs Go.Proofs
set_option maxRecDepth 100000
set_option linter.unusedVariables false
set_option linter.unusedSimpArgs false
def T14 : Tbl := [(33, g33), (32, g32), (31, g31)]
def zA : Ak := ⟨0, 0, ⟨[], 0, 0⟩, ⟨false, 0, 0, 0, false⟩⟩
/-- reply.Read -/
def readV (s : Bs) : Ak × Int × Int :=
  if headB s = false ∨ ofV 0 (headF s) = 1 then (zA, 0, 0)
  else if ofV 1 (headF s) ≠ 0 then (⟨headI s, headF s, ⟨[], 0, 0⟩, ⟨false, 0, 0, 0, false⟩⟩, 1, 4)
  else
    let a : Ak := ⟨headI s, headF s, (askV s).1, (askV s).2.1⟩
    if (askV s).2.2 = false then (a, 1, 1)
    else if a.o.vers ≠ 0 then (a, 1, 16)
    else if a.q.cls ≠ 1 then (a, 1, 5)
    else if a.q.kind = 0 ∨ a.q.kind = 41 ∨ (128 ≤ a.q.kind ∧ a.q.kind ≤ 255) then (a, 1, 4)
    else (a, 2, 0)
def akC (a : Ak) : List AV := [.int .i64 a.id, .int .i64 a.bits, .str a.q.name, .int .i64 a.q.kind, .int .i64 a.q.cls, .bool a.o.has, .int .i64 a.o.size, .int .i64 a.o.ext, .int .i64 a.o.vers, .bool a.o.dO]
def g11 : List AV → Option (Bool × AV)
  | [.str s] => some (decide (s.length ≤ 1099511627776), .tup [.agg (akC (readV s).1), .int .i64 (readV s).2.1, .int .i64 (readV s).2.2])
  | _ => none
theorem headF_bd (s : Bs) : 0 ≤ headF s ∧ headF s ≤ 65535 := by
  unfold headF
  split
  · omega
  · have h : getV s 2 2 < 65536 := by simpa using getV_lt s 2 2
    have := (getV_bound s 2 2).1
    omega
set_option maxHeartbeats 40000000 in
theorem s11 : Spec (EY T14) Tryz.f11 g11 := by
  intro args v hg
  unfold g11 at hg
  split at hg
  · rename_i s
    simp only [Option.some.injEq, Prod.mk.injEq, true_and, decide_eq_true_eq, Bool.and_eq_true] at hg
    obtain ⟨hs, rfl⟩ := hg
    refine ⟨(by simp [Solids, Solid, Solidss]), ?_⟩
    have hbd := headF_bd s
    generalize hr : readV s = r
    unfold readV at hr
    simp only at hr
    (conv => whnf)
    refine obl (decide_eq_true hs) ?_
    (conv => whnf)
    refine tst (fun h1 => ?_) (fun h1 => ?_)
    · have h1' : headB s = false := by simpa using h1
      rw [if_pos (.inl h1')] at hr
      subst hr
      (conv => whnf)
      (refine ⟨_, _, rfl, ?_, ⟨_, _, rfl, ?_, ⟨_, _, rfl, ?_, rfl⟩⟩⟩) <;> (conv => whnf)
      · (refine ⟨_, _, rfl, ?_, ⟨_, _, rfl, ?_, ⟨_, _, rfl, ?_, ⟨_, _, rfl, ?_, ⟨_, _, rfl, ?_, ⟨_, _, rfl, ?_, ⟨_, _, rfl, ?_, ⟨_, _, rfl, ?_, ⟨_, _, rfl, ?_, ⟨_, _, rfl, ?_, rfl⟩⟩⟩⟩⟩⟩⟩⟩⟩⟩) <;> (conv => whnf)
        all_goals first | rfl | exact ⟨rfl, rfl⟩
      · exact ⟨rfl, rfl⟩
      · exact ⟨rfl, rfl⟩
    have h1' : headB s = true := by simpa using h1
    (conv => whnf)
    refine obl (by simp only [Bool.and_eq_true, decide_eq_true_eq]; exact hbd) ?_
    (conv => whnf)
    refine tst (fun h2 => ?_) (fun h2 => ?_)
    · have h2' : ofV 0 (headF s) = 1 := by simpa using h2
      rw [if_pos (.inr h2')] at hr
      subst hr
      (conv => whnf)
      (refine ⟨_, _, rfl, ?_, ⟨_, _, rfl, ?_, ⟨_, _, rfl, ?_, rfl⟩⟩⟩) <;> (conv => whnf)
      · (refine ⟨_, _, rfl, ?_, ⟨_, _, rfl, ?_, ⟨_, _, rfl, ?_, ⟨_, _, rfl, ?_, ⟨_, _, rfl, ?_, ⟨_, _, rfl, ?_, ⟨_, _, rfl, ?_, ⟨_, _, rfl, ?_, ⟨_, _, rfl, ?_, ⟨_, _, rfl, ?_, rfl⟩⟩⟩⟩⟩⟩⟩⟩⟩⟩) <;> (conv => whnf)
        all_goals first | rfl | exact ⟨rfl, rfl⟩
      · exact ⟨rfl, rfl⟩
      · exact ⟨rfl, rfl⟩
    have h2' : ¬ ofV 0 (headF s) = 1 := by simpa using h2
    rw [if_neg (by simp [h1', h2'])] at hr
    (conv => whnf)
    refine obl (by simp only [Bool.and_eq_true, decide_eq_true_eq]; exact hbd) ?_
    (conv => whnf)
    refine tst (fun h3 => ?_) (fun h3 => ?_)
    · have h3' : ofV 1 (headF s) ≠ 0 := by simpa using h3
      rw [if_pos h3'] at hr
      subst hr
      (conv => whnf)
      (refine ⟨_, _, rfl, ?_, ⟨_, _, rfl, ?_, ⟨_, _, rfl, ?_, rfl⟩⟩⟩) <;> (conv => whnf)
      · (refine ⟨_, _, rfl, ?_, ⟨_, _, rfl, ?_, ⟨_, _, rfl, ?_, ⟨_, _, rfl, ?_, ⟨_, _, rfl, ?_, ⟨_, _, rfl, ?_, ⟨_, _, rfl, ?_, ⟨_, _, rfl, ?_, ⟨_, _, rfl, ?_, ⟨_, _, rfl, ?_, rfl⟩⟩⟩⟩⟩⟩⟩⟩⟩⟩) <;> (conv => whnf)
        all_goals first | rfl | exact ⟨rfl, rfl⟩
      · exact ⟨rfl, rfl⟩
      · exact ⟨rfl, rfl⟩
    have h3' : ¬ ofV 1 (headF s) ≠ 0 := by simpa using h3
    rw [if_neg h3'] at hr
    (conv => whnf)
    refine obl (decide_eq_true hs) ?_
    generalize askV s = q at *
    obtain ⟨⟨qn, qk, qc⟩, ⟨oh, os, oe, ov, od⟩, is⟩ := q
    simp only at hr ⊢
    (conv => whnf)
    refine tst (fun h4 => ?_) (fun h4 => ?_)
    · have h4' : is = false := by simpa using h4
      rw [if_pos h4'] at hr
      subst hr
      (conv => whnf)
      (refine ⟨_, _, rfl, ?_, ⟨_, _, rfl, ?_, ⟨_, _, rfl, ?_, rfl⟩⟩⟩) <;> (conv => whnf)
      · (refine ⟨_, _, rfl, ?_, ⟨_, _, rfl, ?_, ⟨_, _, rfl, ?_, ⟨_, _, rfl, ?_, ⟨_, _, rfl, ?_, ⟨_, _, rfl, ?_, ⟨_, _, rfl, ?_, ⟨_, _, rfl, ?_, ⟨_, _, rfl, ?_, ⟨_, _, rfl, ?_, rfl⟩⟩⟩⟩⟩⟩⟩⟩⟩⟩) <;> (conv => whnf)
        all_goals first | rfl | exact ⟨rfl, rfl⟩
      · exact ⟨rfl, rfl⟩
      · exact ⟨rfl, rfl⟩
    have h4' : ¬ is = false := by simpa using h4
    rw [if_neg h4'] at hr
    (conv => whnf)
    refine tst (fun h5 => ?_) (fun h5 => ?_)
    · have h5' : ov ≠ 0 := by simpa using h5
      rw [if_pos h5'] at hr
      subst hr
      (conv => whnf)
      (refine ⟨_, _, rfl, ?_, ⟨_, _, rfl, ?_, ⟨_, _, rfl, ?_, rfl⟩⟩⟩) <;> (conv => whnf)
      · (refine ⟨_, _, rfl, ?_, ⟨_, _, rfl, ?_, ⟨_, _, rfl, ?_, ⟨_, _, rfl, ?_, ⟨_, _, rfl, ?_, ⟨_, _, rfl, ?_, ⟨_, _, rfl, ?_, ⟨_, _, rfl, ?_, ⟨_, _, rfl, ?_, ⟨_, _, rfl, ?_, rfl⟩⟩⟩⟩⟩⟩⟩⟩⟩⟩) <;> (conv => whnf)
        all_goals first | rfl | exact ⟨rfl, rfl⟩
      · exact ⟨rfl, rfl⟩
      · exact ⟨rfl, rfl⟩
    have h5' : ¬ ov ≠ 0 := by simpa using h5
    rw [if_neg h5'] at hr
    (conv => whnf)
    refine tst (fun h6 => ?_) (fun h6 => ?_)
    · have h6' : qc ≠ 1 := by simpa using h6
      rw [if_pos h6'] at hr
      subst hr
      (conv => whnf)
      (refine ⟨_, _, rfl, ?_, ⟨_, _, rfl, ?_, ⟨_, _, rfl, ?_, rfl⟩⟩⟩) <;> (conv => whnf)
      · (refine ⟨_, _, rfl, ?_, ⟨_, _, rfl, ?_, ⟨_, _, rfl, ?_, ⟨_, _, rfl, ?_, ⟨_, _, rfl, ?_, ⟨_, _, rfl, ?_, ⟨_, _, rfl, ?_, ⟨_, _, rfl, ?_, ⟨_, _, rfl, ?_, ⟨_, _, rfl, ?_, rfl⟩⟩⟩⟩⟩⟩⟩⟩⟩⟩) <;> (conv => whnf)
        all_goals first | rfl | exact ⟨rfl, rfl⟩
      · exact ⟨rfl, rfl⟩
      · exact ⟨rfl, rfl⟩
    have h6' : ¬ qc ≠ 1 := by simpa using h6
    rw [if_neg h6'] at hr
    (conv => whnf)
    refine tst (fun h7 => ?_) (fun h7 => ?_)
    · have h7' : qk = 0 := by simpa using h7
      rw [if_pos (.inl h7')] at hr
      subst hr
      (conv => whnf)
      (refine ⟨_, _, rfl, ?_, ⟨_, _, rfl, ?_, ⟨_, _, rfl, ?_, rfl⟩⟩⟩) <;> (conv => whnf)
      · (refine ⟨_, _, rfl, ?_, ⟨_, _, rfl, ?_, ⟨_, _, rfl, ?_, ⟨_, _, rfl, ?_, ⟨_, _, rfl, ?_, ⟨_, _, rfl, ?_, ⟨_, _, rfl, ?_, ⟨_, _, rfl, ?_, ⟨_, _, rfl, ?_, ⟨_, _, rfl, ?_, rfl⟩⟩⟩⟩⟩⟩⟩⟩⟩⟩) <;> (conv => whnf)
        all_goals first | rfl | exact ⟨rfl, rfl⟩
      · exact ⟨rfl, rfl⟩
      · exact ⟨rfl, rfl⟩
    have h7' : qk ≠ 0 := by simpa using h7
    (conv => whnf)
    refine tst (fun h8 => ?_) (fun h8 => ?_)
    · have h8' : qk = 41 := by simpa using h8
      rw [if_pos (.inr (.inl h8'))] at hr
      subst hr
      (conv => whnf)
      (refine ⟨_, _, rfl, ?_, ⟨_, _, rfl, ?_, ⟨_, _, rfl, ?_, rfl⟩⟩⟩) <;> (conv => whnf)
      · (refine ⟨_, _, rfl, ?_, ⟨_, _, rfl, ?_, ⟨_, _, rfl, ?_, ⟨_, _, rfl, ?_, ⟨_, _, rfl, ?_, ⟨_, _, rfl, ?_, ⟨_, _, rfl, ?_, ⟨_, _, rfl, ?_, ⟨_, _, rfl, ?_, ⟨_, _, rfl, ?_, rfl⟩⟩⟩⟩⟩⟩⟩⟩⟩⟩) <;> (conv => whnf)
        all_goals first | rfl | exact ⟨rfl, rfl⟩
      · exact ⟨rfl, rfl⟩
      · exact ⟨rfl, rfl⟩
    have h8' : qk ≠ 41 := by simpa using h8
    (conv => whnf)
    refine tst (fun h9 => ?_) (fun h9 => ?_)
    · have h9' : 128 ≤ qk := by simpa using h9
      (conv => whnf)
      refine tst (fun h10 => ?_) (fun h10 => ?_)
      · have h10' : qk ≤ 255 := by simpa using h10
        rw [if_pos (.inr (.inr ⟨h9', h10'⟩))] at hr
        subst hr
        (conv => whnf)
        (refine ⟨_, _, rfl, ?_, ⟨_, _, rfl, ?_, ⟨_, _, rfl, ?_, rfl⟩⟩⟩) <;> (conv => whnf)
        · (refine ⟨_, _, rfl, ?_, ⟨_, _, rfl, ?_, ⟨_, _, rfl, ?_, ⟨_, _, rfl, ?_, ⟨_, _, rfl, ?_, ⟨_, _, rfl, ?_, ⟨_, _, rfl, ?_, ⟨_, _, rfl, ?_, ⟨_, _, rfl, ?_, ⟨_, _, rfl, ?_, rfl⟩⟩⟩⟩⟩⟩⟩⟩⟩⟩) <;> (conv => whnf)
          all_goals first | rfl | exact ⟨rfl, rfl⟩
        · exact ⟨rfl, rfl⟩
        · exact ⟨rfl, rfl⟩
      · have h10' : ¬ qk ≤ 255 := by simpa using h10
        rw [if_neg (by simp [h7', h8']; omega)] at hr
        subst hr
        (conv => whnf)
        (refine ⟨_, _, rfl, ?_, ⟨_, _, rfl, ?_, ⟨_, _, rfl, ?_, rfl⟩⟩⟩) <;> (conv => whnf)
        · (refine ⟨_, _, rfl, ?_, ⟨_, _, rfl, ?_, ⟨_, _, rfl, ?_, ⟨_, _, rfl, ?_, ⟨_, _, rfl, ?_, ⟨_, _, rfl, ?_, ⟨_, _, rfl, ?_, ⟨_, _, rfl, ?_, ⟨_, _, rfl, ?_, ⟨_, _, rfl, ?_, rfl⟩⟩⟩⟩⟩⟩⟩⟩⟩⟩) <;> (conv => whnf)
          all_goals first | rfl | exact ⟨rfl, rfl⟩
        · exact ⟨rfl, rfl⟩
        · exact ⟨rfl, rfl⟩
    · have h9' : ¬ 128 ≤ qk := by simpa using h9
      rw [if_neg (by simp [h7', h8']; omega)] at hr
      subst hr
      (conv => whnf)
      (refine ⟨_, _, rfl, ?_, ⟨_, _, rfl, ?_, ⟨_, _, rfl, ?_, rfl⟩⟩⟩) <;> (conv => whnf)
      · (refine ⟨_, _, rfl, ?_, ⟨_, _, rfl, ?_, ⟨_, _, rfl, ?_, ⟨_, _, rfl, ?_, ⟨_, _, rfl, ?_, ⟨_, _, rfl, ?_, ⟨_, _, rfl, ?_, ⟨_, _, rfl, ?_, ⟨_, _, rfl, ?_, ⟨_, _, rfl, ?_, rfl⟩⟩⟩⟩⟩⟩⟩⟩⟩⟩) <;> (conv => whnf)
        all_goals first | rfl | exact ⟨rfl, rfl⟩
      · exact ⟨rfl, rfl⟩
      · exact ⟨rfl, rfl⟩
  · cases hg
end Go.Abs.R

namespace Go.Abs
theorem rdN_ne : ∀ (k : Nat) (s : Bs) (a l n : Int) (acc : Bs), (rdN s k a l n acc).2.2 = 0 → (rdN s k a l n acc).1 ≠ []
  | 0, s, a, l, n, acc, h => by simp [rdN] at h
  | k + 1, s, a, l, n, acc, h => by
    unfold rdN at h ⊢
    split at h
    · rename_i h1
      rw [if_pos h1]
      split at h
      · rename_i h2
        rw [if_pos h2]
        simp
      · rename_i h2
        rw [if_neg h2]
        split at h
        · rename_i h3
          rw [if_pos h3]
          split at h
          · rename_i h4
            rw [if_pos h4]
            split at h
            · simp at h
            · rename_i h5
              rw [if_neg h5]
              exact rdN_ne k s _ _ _ _ h
          · simp at h
        · rename_i h3
          rw [if_neg h3]
          split at h
          · simp at h
          · rename_i h4
            rw [if_neg h4]
            split at h
            · rename_i h5
              rw [if_pos h5]
              split at h
              · simp at h
              · rename_i h6
                rw [if_neg h6]
                exact rdN_ne k s _ _ _ _ h
            · simp at h
    · simp at h
theorem qV_facts {s : Bs} {a : Int} (h : (qV s a).2.2 = 0) : (qV s a).1.name ≠ [] ∧ 0 ≤ (qV s a).1.kind := by
  unfold qV at h ⊢
  split at h
  · rename_i h1
    rw [if_pos h1]
    split at h
    · rename_i h2
      rw [if_pos h2]
      exact ⟨rdN_ne _ _ _ _ _ _ h1, (getV_bound _ _ _).1⟩
    · simp at h
  · rename_i h1; exact absurd h h1
theorem qsN_facts (s : Bs) : ∀ (k : Nat) (a : Int) (acc l : List Qn) (b : Int), qsN s k a acc = .inr (l, b) → (∀ q ∈ acc, q.name ≠ [] ∧ 0 ≤ q.kind) → ∀ q ∈ l, q.name ≠ [] ∧ 0 ≤ q.kind
  | 0, a, acc, l, b, h, ha => by simp only [qsN, Sum.inr.injEq, Prod.mk.injEq] at h; obtain ⟨rfl, rfl⟩ := h; exact ha
  | k + 1, a, acc, l, b, h, ha => by
    simp only [qsN] at h
    split at h
    · rename_i h1
      refine qsN_facts s k _ _ l b h fun q hq => ?_
      simp only [List.mem_append, List.mem_singleton] at hq
      exact hq.elim (ha q) fun e => by rw [e]; exact qV_facts h1
    · cases h
theorem decM_facts (s : Bs) : ∀ q ∈ (decM s).qs, q.name ≠ [] ∧ 0 ≤ q.kind := by
  unfold decM
  split
  · simp
  · rename_i m h
    unfold decV at h
    split at h
    · cases h
    · split at h
      · cases h
      · split at h
        · cases h
        · rename_i qs a h0
          have hq := qsN_facts s _ _ _ _ _ h0 (by simp)
          unfold fin0 at h
          split at h
          · cases h
          · unfold fin1 at h
            split at h
            · cases h
            · unfold fin2 at h
              split at h
              · cases h
              · unfold fin3 at h
                split at h
                · cases h; exact hq
                · cases h
theorem askV_facts (s : Bs) (h : (askV s).2.2 = true) : (askV s).1.name ≠ [] ∧ 0 ≤ (askV s).1.kind := by
  unfold askV at h ⊢
  split at h
  · rename_i q hq
    split at h
    · rename_i h1
      rw [if_pos h1]
      exact decM_facts s q (by rw [hq]; simp)
    · cases h
  · cases h
namespace R
/-- What any bytes come to. -/
theorem readV_kinds (s : Bs) :
    ((readV s).2.1 = 2 ∧ (readV s).1.q.cls = 1 ∧ 0 < (readV s).1.q.kind ∧ (readV s).1.q.kind ≠ 41 ∧ ((readV s).1.q.kind < 128 ∨ 255 < (readV s).1.q.kind) ∧ (readV s).1.o.vers = 0 ∧ (readV s).2.2 = 0 ∧ (readV s).1.q.name ≠ []) ∨
    ((readV s).2.1 = 1 ∧ ((readV s).2.2 = 1 ∨ (readV s).2.2 = 4 ∨ (readV s).2.2 = 5 ∨ (readV s).2.2 = 16)) ∨ ((readV s).2.1 = 0 ∧ (readV s).1 = zA ∧ (readV s).2.2 = 0) := by
  unfold readV
  split
  · exact .inr (.inr ⟨rfl, rfl, rfl⟩)
  · split
    · exact .inr (.inl ⟨rfl, .inr (.inl rfl)⟩)
    · simp only
      split
      · exact .inr (.inl ⟨rfl, .inl rfl⟩)
      · rename_i h1
        have hf := askV_facts s (by simpa using h1)
        split
        · exact .inr (.inl ⟨rfl, .inr (.inr (.inr rfl))⟩)
        · split
          · exact .inr (.inl ⟨rfl, .inr (.inr (.inl rfl))⟩)
          · split
            · exact .inr (.inl ⟨rfl, .inr (.inl rfl)⟩)
            · rename_i h2 h3 h4
              simp only [not_or, not_and] at h4
              exact .inl ⟨rfl, by simpa using h3, by simp only; omega, h4.2.1, by simp only; omega, by simpa using h2, rfl, hf.1⟩
end R
end Go.Abs
