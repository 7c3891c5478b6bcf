import Derived.Test.YtaifmmemfmapkaaGreatSd
import Derived.Test.YtaifmmemfmapkaaGreatMods
namespace Go.Abs.R
open Go.Abs Go.Proofs
set_option maxRecDepth 100000
set_option linter.unusedVariables false
set_option linter.unusedSimpArgs false
def T8 : Tbl := [(125, g125), (123, g123), (60, g60), (94, g94), (95, g95)]
/-- msg.Head -/
def g31 : List AV → Option (Bool × AV)
  | [.str s] => some (decide (s.length ≤ 1099511627776), .tup [.int .i64 (headI s), .int .i64 (headF s), .bool (headB s)])
  | _ => none
theorem s31 : Spec (EY T8) Tryz.f31 g31 := by
  intro args v hg
  unfold g31 at hg
  split at hg
  · rename_i s
    simp only [Option.some.injEq, Prod.mk.injEq, true_and, decide_eq_true_eq, Bool.and_eq_true] at hg
    obtain ⟨hs, rfl⟩ := hg
    refine ⟨(by simp [Solids, Solid, Solidss]), ?_⟩
    (conv => whnf)
    refine tst (fun h1 => ?_) (fun h1 => ?_)
    · have hl : s.length < 12 := by simp only [decide_eq_true_eq] at h1; omega
      (conv => whnf)
      (refine ⟨_, _, rfl, ?_, ⟨_, _, rfl, ?_, ⟨_, _, rfl, ?_, rfl⟩⟩⟩) <;> (conv => whnf)
      · exact ⟨rfl, by simp [headI, hl]⟩
      · exact ⟨rfl, by simp [headF, hl]⟩
      · simp [headB]; omega
    · have hl : ¬ s.length < 12 := by simp only [decide_eq_false_iff_not] at h1; omega
      (conv => whnf)
      refine obl (decide_eq_true hs) ?_
      (conv => whnf)
      refine obl (decide_eq_true hs) ?_
      (conv => whnf)
      (refine ⟨_, _, rfl, ?_, ⟨_, _, rfl, ?_, ⟨_, _, rfl, ?_, rfl⟩⟩⟩) <;> (conv => whnf)
      · exact ⟨rfl, by simp [headI, hl]⟩
      · exact ⟨rfl, by simp [headF, hl]⟩
      · simp [headB]; omega
  · cases hg
/-- msg.many -/
def g96 : List AV → Option (Bool × AV)
  | [.str s, .int .i64 k] => some (decide (s.length ≤ 1099511627776) && decide (0 ≤ k) && decide (k ≤ 10), .int .i64 (getV s (4 + 2 * k) 2))
  | _ => none
theorem s96 : Spec (EY T8) Tryz.f96 g96 := by
  intro args v hg
  unfold g96 at hg
  split at hg
  · rename_i s k
    simp only [Option.some.injEq, Prod.mk.injEq, true_and, decide_eq_true_eq, Bool.and_eq_true] at hg
    obtain ⟨⟨⟨hs, h0⟩, h1⟩, rfl⟩ := hg
    refine ⟨(by simp [Solids, Solid, Solidss]), ?_⟩
    (conv => whnf)
    refine obl (decide_eq_true hs) ?_
    (conv => whnf)
    refine ⟨rfl, ?_⟩
    show getV s (IntKind.i64.wrap (4 + IntKind.i64.wrap (2 * k))) 2 = _
    rw [wr (x := 2 * k) (by omega) (by omega), wr (by omega) (by omega)]
  · cases hg
/-- msg.question -/
def g97 : List AV → Option (Bool × AV)
  | [.str s, .int .i64 a] => some (decide (s.length ≤ 1099511627776) && decide (a ≤ 1099511627776),
      .tup [.agg [.str (qV s a).1.name, .int .i64 (qV s a).1.kind, .int .i64 (qV s a).1.cls], .int .i64 (qV s a).2.1, .int .i64 (qV s a).2.2])
  | _ => none
theorem s97 : Spec (EY T8) Tryz.f97 g97 := by
  intro args v hg
  unfold g97 at hg
  split at hg
  · rename_i s a
    simp only [Option.some.injEq, Prod.mk.injEq, true_and, decide_eq_true_eq, Bool.and_eq_true] at hg
    obtain ⟨⟨hs, h0⟩, rfl⟩ := hg
    refine ⟨(by simp [Solids, Solid, Solidss]), ?_⟩
    (conv => whnf)
    refine obl (by simp only [Bool.and_eq_true, decide_eq_true_eq]; exact ⟨hs, h0⟩) ?_
    (conv => whnf)
    refine tst (fun h1 => ?_) (fun h1 => ?_)
    · have he : (rdV s a).2.2 ≠ 0 := by simpa using h1
      have hr : qV s a = (⟨[], 0, 0⟩, 0, (rdV s a).2.2) := by unfold qV; rw [if_neg he]
      rw [hr]
      (conv => whnf)
      (refine ⟨_, _, rfl, ?_, ⟨_, _, rfl, ?_, ⟨_, _, rfl, ?_, rfl⟩⟩⟩) <;> (conv => whnf)
      · (refine ⟨_, _, rfl, ?_, ⟨_, _, rfl, ?_, ⟨_, _, rfl, ?_, rfl⟩⟩⟩) <;> (conv => whnf)
        all_goals first | rfl | exact ⟨rfl, rfl⟩
      · exact ⟨rfl, rfl⟩
      · exact ⟨rfl, rfl⟩
    · have he : (rdV s a).2.2 = 0 := by simpa using h1
      have hn := rdV_next he
      have w2 : IntKind.i64.wrap ((rdV s a).2.1 + 2) = (rdV s a).2.1 + 2 := wr (by omega) (by omega)
      have w4 : IntKind.i64.wrap ((rdV s a).2.1 + 4) = (rdV s a).2.1 + 4 := wr (by omega) (by omega)
      (conv => whnf)
      refine obl (decide_eq_true hs) ?_
      (conv => whnf)
      refine obl (decide_eq_true hs) ?_
      rw [w2]
      (conv => whnf)
      refine tst (fun h2 => ?_) (fun h2 => ?_)
      · have hb : getB s ((rdV s a).2.1 + 2) 2 = false := by simpa using h2
        have hr : qV s a = (⟨[], 0, 0⟩, 0, 2) := by unfold qV; rw [if_pos he, if_neg (by simp [hb])]
        rw [hr]
        (conv => whnf)
        (refine ⟨_, _, rfl, ?_, ⟨_, _, rfl, ?_, ⟨_, _, rfl, ?_, rfl⟩⟩⟩) <;> (conv => whnf)
        · (refine ⟨_, _, rfl, ?_, ⟨_, _, rfl, ?_, ⟨_, _, rfl, ?_, rfl⟩⟩⟩) <;> (conv => whnf)
          all_goals first | rfl | exact ⟨rfl, rfl⟩
        · exact ⟨rfl, rfl⟩
        · exact ⟨rfl, rfl⟩
      · have hb : getB s ((rdV s a).2.1 + 2) 2 = true := by simpa using h2
        have hr : qV s a = (⟨(rdV s a).1, getV s (rdV s a).2.1 2, getV s ((rdV s a).2.1 + 2) 2⟩, (rdV s a).2.1 + 4, 0) := by unfold qV; rw [if_pos he, if_pos hb]
        rw [hr]
        (conv => whnf)
        (refine ⟨_, _, rfl, ?_, ⟨_, _, rfl, ?_, ⟨_, _, rfl, ?_, rfl⟩⟩⟩) <;> (conv => whnf)
        · (refine ⟨_, _, rfl, ?_, ⟨_, _, rfl, ?_, ⟨_, _, rfl, ?_, rfl⟩⟩⟩) <;> (conv => whnf)
          all_goals first | rfl | exact ⟨rfl, rfl⟩
        · exact ⟨rfl, w4⟩
        · exact ⟨rfl, rfl⟩
  · cases hg
/-- record.Decode -/
def g98 : List AV → Option (Bool × AV)
  | [.str s, .int .i64 a] => some (decide (s.length ≤ 1099511627776) && decide (a ≤ 1099511627776),
      .tup [.agg [.str (rrV s a).1.name, .int .i64 (rrV s a).1.kind, .int .i64 (rrV s a).1.cls, .int .i64 (rrV s a).1.ttl, .str (rrV s a).1.data], .int .i64 (rrV s a).2.1, .int .i64 (rrV s a).2.2])
  | _ => none
set_option maxHeartbeats 4000000 in
theorem s98 : Spec (EY T8) Tryz.f98 g98 := by
  intro args v hg
  unfold g98 at hg
  split at hg
  · rename_i s a
    simp only [Option.some.injEq, Prod.mk.injEq, true_and, decide_eq_true_eq, Bool.and_eq_true] at hg
    obtain ⟨⟨hs, h0⟩, rfl⟩ := hg
    refine ⟨(by simp [Solids, Solid, Solidss]), ?_⟩
    (conv => whnf)
    refine obl (by simp only [Bool.and_eq_true, decide_eq_true_eq]; exact ⟨hs, h0⟩) ?_
    (conv => whnf)
    refine tst (fun h1 => ?_) (fun h1 => ?_)
    · have he : (rdV s a).2.2 ≠ 0 := by simpa using h1
      have hr : rrV s a = (⟨[], 0, 0, 0, []⟩, 0, (rdV s a).2.2) := by unfold rrV; rw [if_neg he]
      rw [hr]
      (conv => whnf)
      (refine ⟨_, _, rfl, ?_, ⟨_, _, rfl, ?_, ⟨_, _, rfl, ?_, rfl⟩⟩⟩) <;> (conv => whnf)
      · (refine ⟨_, _, rfl, ?_, ⟨_, _, rfl, ?_, ⟨_, _, rfl, ?_, ⟨_, _, rfl, ?_, ⟨_, _, rfl, ?_, rfl⟩⟩⟩⟩⟩) <;> (conv => whnf)
        all_goals first | rfl | exact ⟨rfl, rfl⟩
      · exact ⟨rfl, rfl⟩
      · exact ⟨rfl, rfl⟩
    · have he : (rdV s a).2.2 = 0 := by simpa using h1
      have hn := rdV_next he
      (conv => whnf)
      have w2 : IntKind.i64.wrap ((rdV s a).2.1 + 2) = (rdV s a).2.1 + 2 := wr (by omega) (by omega)
      have w4 : IntKind.i64.wrap ((rdV s a).2.1 + 2 + 2) = (rdV s a).2.1 + 4 := by rw [wr (by omega) (by omega)]; omega
      have w8 : IntKind.i64.wrap ((rdV s a).2.1 + 4 + 4) = (rdV s a).2.1 + 8 := by rw [wr (by omega) (by omega)]; omega
      have w10 : IntKind.i64.wrap ((rdV s a).2.1 + 8 + 2) = (rdV s a).2.1 + 10 := by rw [wr (by omega) (by omega)]; omega
      generalize hb : (rdV s a).2.1 = b at *
      refine obl (decide_eq_true hs) ?_
      (conv => whnf)
      refine obl (decide_eq_true hs) ?_
      rw [w2]
      (conv => whnf)
      refine tst (fun h2 => ?_) (fun h2 => ?_)
      · have hc : getB s b 2 = false := by simpa using h2
        (conv => whnf)
        (refine obl (decide_eq_true hs) ?_; rw [w4]; (conv => whnf))
        (refine obl (decide_eq_true hs) ?_; rw [w8]; (conv => whnf))
        have hr : rrV s a = (⟨[], 0, 0, 0, []⟩, 0, 2) := by unfold rrV; simp only [he, hb, if_true]; rw [if_neg (by simp [hc])]
        rw [hr]
        (conv => whnf)
        (refine ⟨_, _, rfl, ?_, ⟨_, _, rfl, ?_, ⟨_, _, rfl, ?_, rfl⟩⟩⟩) <;> (conv => whnf)
        · (refine ⟨_, _, rfl, ?_, ⟨_, _, rfl, ?_, ⟨_, _, rfl, ?_, ⟨_, _, rfl, ?_, ⟨_, _, rfl, ?_, rfl⟩⟩⟩⟩⟩) <;> (conv => whnf)
          all_goals first | rfl | exact ⟨rfl, rfl⟩
        · exact ⟨rfl, rfl⟩
        · exact ⟨rfl, rfl⟩
      have hc1 : getB s b 2 = true := by simpa using h2
      (conv => whnf)
      (refine obl (decide_eq_true hs) ?_; rw [w4]; (conv => whnf))
      refine tst (fun h3 => ?_) (fun h3 => ?_)
      · have hc : getB s (b + 2) 2 = false := by simpa using h3
        (conv => whnf)
        (refine obl (decide_eq_true hs) ?_; rw [w8]; (conv => whnf))
        have hr : rrV s a = (⟨[], 0, 0, 0, []⟩, 0, 2) := by unfold rrV; simp only [he, hb, if_true]; rw [if_neg (by simp [hc])]
        rw [hr]
        (conv => whnf)
        (refine ⟨_, _, rfl, ?_, ⟨_, _, rfl, ?_, ⟨_, _, rfl, ?_, rfl⟩⟩⟩) <;> (conv => whnf)
        · (refine ⟨_, _, rfl, ?_, ⟨_, _, rfl, ?_, ⟨_, _, rfl, ?_, ⟨_, _, rfl, ?_, ⟨_, _, rfl, ?_, rfl⟩⟩⟩⟩⟩) <;> (conv => whnf)
          all_goals first | rfl | exact ⟨rfl, rfl⟩
        · exact ⟨rfl, rfl⟩
        · exact ⟨rfl, rfl⟩
      have hc2 : getB s (b + 2) 2 = true := by simpa using h3
      (conv => whnf)
      (refine obl (decide_eq_true hs) ?_; rw [w8]; (conv => whnf))
      refine tst (fun h4 => ?_) (fun h4 => ?_)
      · have hc : getB s (b + 4) 4 = false := by simpa using h4
        (conv => whnf)
        have hr : rrV s a = (⟨[], 0, 0, 0, []⟩, 0, 2) := by unfold rrV; simp only [he, hb, if_true]; rw [if_neg (by simp [hc])]
        rw [hr]
        (conv => whnf)
        (refine ⟨_, _, rfl, ?_, ⟨_, _, rfl, ?_, ⟨_, _, rfl, ?_, rfl⟩⟩⟩) <;> (conv => whnf)
        · (refine ⟨_, _, rfl, ?_, ⟨_, _, rfl, ?_, ⟨_, _, rfl, ?_, ⟨_, _, rfl, ?_, ⟨_, _, rfl, ?_, rfl⟩⟩⟩⟩⟩) <;> (conv => whnf)
          all_goals first | rfl | exact ⟨rfl, rfl⟩
        · exact ⟨rfl, rfl⟩
        · exact ⟨rfl, rfl⟩
      have hc3 : getB s (b + 4) 4 = true := by simpa using h4
      (conv => whnf)
      refine tst (fun h5 => ?_) (fun h5 => ?_)
      · have hc : getB s (b + 8) 2 = false := by simpa using h5
        (conv => whnf)
        have hr : rrV s a = (⟨[], 0, 0, 0, []⟩, 0, 2) := by unfold rrV; simp only [he, hb, if_true]; rw [if_neg (by simp [hc])]
        rw [hr]
        (conv => whnf)
        (refine ⟨_, _, rfl, ?_, ⟨_, _, rfl, ?_, ⟨_, _, rfl, ?_, rfl⟩⟩⟩) <;> (conv => whnf)
        · (refine ⟨_, _, rfl, ?_, ⟨_, _, rfl, ?_, ⟨_, _, rfl, ?_, ⟨_, _, rfl, ?_, ⟨_, _, rfl, ?_, rfl⟩⟩⟩⟩⟩) <;> (conv => whnf)
          all_goals first | rfl | exact ⟨rfl, rfl⟩
        · exact ⟨rfl, rfl⟩
        · exact ⟨rfl, rfl⟩
      have hc4 : getB s (b + 8) 2 = true := by simpa using h5
      have g8 := getB_iff.1 hc4
      have hr : rrV s a = if (expV s (b + 10) (getV s (b + 8) 2) (getV s b 2)).2 = 0 then
        (⟨(rdV s a).1, getV s b 2, getV s (b + 2) 2, if 2147483647 < getV s (b + 4) 4 then 0 else getV s (b + 4) 4, (expV s (b + 10) (getV s (b + 8) 2) (getV s b 2)).1⟩, b + 10 + getV s (b + 8) 2, 0)
        else (⟨[], 0, 0, 0, []⟩, 0, (expV s (b + 10) (getV s (b + 8) 2) (getV s b 2)).2) := by
        unfold rrV; simp only [he, hb, if_true]; rw [if_pos ⟨hc1, hc2, hc3, hc4⟩]
      rw [hr]
      clear hr
      have gv := getV_bound s (b + 8) 2
      (conv => whnf)
      refine tst (fun h6 => ?_) (fun h6 => ?_)
      · have ht : 2147483647 < getV s (b + 4) 4 := by simpa using h6
        rw [if_pos ht]
        (conv => whnf)
        (refine obl (decide_eq_true hs) ?_; rw [w10]; (conv => whnf))
        refine tst (fun h7 => ?_) (fun h7 => ?_)
        · have hq : (expV s (b + 10) (getV s (b + 8) 2) (getV s b 2)).2 ≠ 0 := by simpa using h7
          rw [if_neg hq]
          (conv => whnf)
          (refine ⟨_, _, rfl, ?_, ⟨_, _, rfl, ?_, ⟨_, _, rfl, ?_, rfl⟩⟩⟩) <;> (conv => whnf)
          · (refine ⟨_, _, rfl, ?_, ⟨_, _, rfl, ?_, ⟨_, _, rfl, ?_, ⟨_, _, rfl, ?_, ⟨_, _, rfl, ?_, rfl⟩⟩⟩⟩⟩) <;> (conv => whnf)
            all_goals first | rfl | exact ⟨rfl, rfl⟩
          · exact ⟨rfl, rfl⟩
          · exact ⟨rfl, rfl⟩
        · have hq : (expV s (b + 10) (getV s (b + 8) 2) (getV s b 2)).2 = 0 := by simpa using h7
          rw [if_pos hq]
          (conv => whnf)
          (refine ⟨_, _, rfl, ?_, ⟨_, _, rfl, ?_, ⟨_, _, rfl, ?_, rfl⟩⟩⟩) <;> (conv => whnf)
          · (refine ⟨_, _, rfl, ?_, ⟨_, _, rfl, ?_, ⟨_, _, rfl, ?_, ⟨_, _, rfl, ?_, ⟨_, _, rfl, ?_, rfl⟩⟩⟩⟩⟩) <;> (conv => whnf)
            all_goals first | rfl | exact ⟨rfl, rfl⟩
          · refine ⟨rfl, ?_⟩
            show IntKind.i64.wrap (b + 10 + getV s (b + 8) 2) = _
            rw [wr (by omega) (by omega)]
          · exact ⟨rfl, rfl⟩
      · have ht : ¬ 2147483647 < getV s (b + 4) 4 := by simpa using h6
        rw [if_neg ht]
        (conv => whnf)
        (refine obl (decide_eq_true hs) ?_; rw [w10]; (conv => whnf))
        refine tst (fun h7 => ?_) (fun h7 => ?_)
        · have hq : (expV s (b + 10) (getV s (b + 8) 2) (getV s b 2)).2 ≠ 0 := by simpa using h7
          rw [if_neg hq]
          (conv => whnf)
          (refine ⟨_, _, rfl, ?_, ⟨_, _, rfl, ?_, ⟨_, _, rfl, ?_, rfl⟩⟩⟩) <;> (conv => whnf)
          · (refine ⟨_, _, rfl, ?_, ⟨_, _, rfl, ?_, ⟨_, _, rfl, ?_, ⟨_, _, rfl, ?_, ⟨_, _, rfl, ?_, rfl⟩⟩⟩⟩⟩) <;> (conv => whnf)
            all_goals first | rfl | exact ⟨rfl, rfl⟩
          · exact ⟨rfl, rfl⟩
          · exact ⟨rfl, rfl⟩
        · have hq : (expV s (b + 10) (getV s (b + 8) 2) (getV s b 2)).2 = 0 := by simpa using h7
          rw [if_pos hq]
          (conv => whnf)
          (refine ⟨_, _, rfl, ?_, ⟨_, _, rfl, ?_, ⟨_, _, rfl, ?_, rfl⟩⟩⟩) <;> (conv => whnf)
          · (refine ⟨_, _, rfl, ?_, ⟨_, _, rfl, ?_, ⟨_, _, rfl, ?_, ⟨_, _, rfl, ?_, ⟨_, _, rfl, ?_, rfl⟩⟩⟩⟩⟩) <;> (conv => whnf)
            all_goals first | rfl | exact ⟨rfl, rfl⟩
          · refine ⟨rfl, ?_⟩
            show IntKind.i64.wrap (b + 10 + getV s (b + 8) 2) = _
            rw [wr (by omega) (by omega)]
          · exact ⟨rfl, rfl⟩
  · cases hg
end Go.Abs.R
