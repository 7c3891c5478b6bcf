import Derived.Test.YtaifmmemfmapkaaGreatSe
namespace Go.Abs.R
open Go.Abs Go.Proofs
set_option maxRecDepth 100000
set_option linter.unusedVariables false
set_option linter.unusedSimpArgs false
def T9 : Tbl := [(98, g98), (97, g97), (96, g96), (31, g31), (125, g125), (123, g123), (60, g60), (94, g94), (95, g95)]
def qC (q : Qn) : List AV := [.str q.name, .int .i64 q.kind, .int .i64 q.cls]
def rC (r : Rr) : List AV := [.str r.name, .int .i64 r.kind, .int .i64 r.cls, .int .i64 r.ttl, .str r.data]
def qsV : List Qn → AV
  | [] => .emp true
  | q :: qs => .row 3 ((q :: qs).map qC)
def rrsV : List Rr → AV
  | [] => .emp true
  | r :: rs => .row 5 ((r :: rs).map rC)
def msgV (m : Mg) : AV := .agg [.int .i64 m.id, .int .i64 m.bits, qsV m.qs, rrsV m.an, rrsV m.ns, rrsV m.ar]
def qCs (l : List Qn) : List AV := (l.map qC).flatten
def rCs (l : List Rr) : List AV := (l.map rC).flatten
theorem qCs_length (l : List Qn) : (qCs l).length = l.length * 3 := by
  induction l with
  | nil => rfl
  | cons q l ih => simp only [qCs, List.map_cons, List.flatten_cons, List.length_append, List.length_cons] at ih ⊢; rw [ih]; simp [qC]; omega
theorem rCs_length (l : List Rr) : (rCs l).length = l.length * 5 := by
  induction l with
  | nil => rfl
  | cons q l ih => simp only [rCs, List.map_cons, List.flatten_cons, List.length_append, List.length_cons] at ih ⊢; rw [ih]; simp [rC]; omega
theorem solid_qR (l : List Qn) : Solidss (l.map qC) := by
  rw [solidss_iff]; intro x hx
  simp only [List.mem_map] at hx
  obtain ⟨y, _, rfl⟩ := hx
  simp [qC, Solids, Solid]
theorem solid_rR (l : List Rr) : Solidss (l.map rC) := by
  rw [solidss_iff]; intro x hx
  simp only [List.mem_map] at hx
  obtain ⟨y, _, rfl⟩ := hx
  simp [rC, Solids, Solid]
theorem solids_flat {l : List (List AV)} (h : Solidss l) : Solids l.flatten := by
  rw [solids_iff]; intro x hx
  rw [List.mem_flatten] at hx
  obtain ⟨y, hy, hx⟩ := hx
  exact solids_iff.1 (solidss_iff.1 h y hy) x hx
theorem solid_qCs (l : List Qn) : Solids (qCs l) := solids_flat (solid_qR l)
theorem solid_rCs (l : List Rr) : Solids (rCs l) := solids_flat (solid_rR l)
theorem solid_qsV (l : List Qn) : Solid (qsV l) := by
  cases l with
  | nil => trivial
  | cons q l => exact solid_qR _
theorem solid_rrsV (l : List Rr) : Solid (rrsV l) := by
  cases l with
  | nil => trivial
  | cons q l => exact solid_rR _
theorem qR_len (l : List Qn) : ∀ x ∈ l.map qC, x.length = 3 := by
  intro x hx; simp only [List.mem_map] at hx; obtain ⟨y, _, rfl⟩ := hx; rfl
theorem rR_len (l : List Rr) : ∀ x ∈ l.map rC, x.length = 5 := by
  intro x hx; simp only [List.mem_map] at hx; obtain ⟨y, _, rfl⟩ := hx; rfl
theorem cntV_le (s : Bs) (k : Int) : cntV s k ≤ 65535 := by
  have h : getV s (4 + 2 * k) 2 < 65536 := by simpa using getV_lt s (4 + 2 * k) 2
  have := (getV_bound s (4 + 2 * k) 2).1
  unfold cntV; omega
/-- msg.Decode -/
def g64 : List AV → Option (Bool × AV)
  | [.str s] => some (decide (s.length ≤ 1099511627776), .tup [msgV (decM s), .int .i64 (decE s)])
  | _ => none
structure D1 where
  i : Nat
  a : Int
  l : List Qn
def D1.S (s : Bs) (n : Nat) (x : D1) : List (Nat × AV) := [(37, .int .i64 x.i), (36, .int .i64 n), (0, .str s), (8, .int .i64 x.a), (7, .ptr 1 0), (2, .ptr 0 0), (3, .int .i64 0)]
def D1.H (id bits : Int) (x : D1) : Heap := match x.l with
  | [] => [.cells false 25 [.int .i64 0, .int .i64 0, .emp true, .emp true, .emp true, .emp true], .cells false 25 [.int .i64 id, .int .i64 bits, .emp true, .emp true, .emp true, .emp true]]
  | q :: qs => [.cells false 25 [.int .i64 0, .int .i64 0, .emp true, .emp true, .emp true, .emp true], .cells false 25 [.int .i64 id, .int .i64 bits, .sl 2 3 0 (q :: qs).length, .emp true, .emp true, .emp true], .cells false 32 (qCs (q :: qs))]
structure D2 where
  i : Nat
  a : Int
  an : List Rr
  ns : List Rr
  ar : List Rr
def D2.I (s : Bs) (qs : List Qn) (x : D2) : Prop := x.i ≤ 3 ∧ 0 ≤ x.a ∧ x.a ≤ s.length ∧ (x.i = 0 → x.an = [] ∧ x.ns = [] ∧ x.ar = [] ∧ fin0 s (headI s) (headF s) qs x.a = decV s) ∧
  (x.i = 1 → x.ns = [] ∧ x.ar = [] ∧ fin1 s (headI s) (headF s) qs x.an x.a = decV s) ∧ (x.i = 2 → x.ar = [] ∧ fin2 s (headI s) (headF s) qs x.an x.ns x.a = decV s) ∧ (x.i = 3 → fin3 s (headI s) (headF s) qs x.an x.ns x.ar x.a = decV s)
def D2.S (s : Bs) (x : D2) : List (Nat × AV) := [(59, .int .i64 x.i), (58, .agg [.ptr 1 3, .ptr 1 4, .ptr 1 5]), (0, .str s), (8, .int .i64 x.a), (7, .ptr 1 0), (2, .ptr 0 0), (3, .int .i64 0)]
def D2.H (s : Bs) (qs : List Qn) (x : D2) : Heap := [.cells false 25 [.int .i64 0, .int .i64 0, .emp true, .emp true, .emp true, .emp true], .cells false 25 [.int .i64 (headI s), .int .i64 (headF s), qsV qs, rrsV x.an, rrsV x.ns, rrsV x.ar]]
structure D3 where
  j : Nat
  a : Int
  l : List Rr
def D3.S (s : Bs) (m i : Nat) (x : D3) : List (Nat × AV) := [(67, .int .i64 x.j), (66, .int .i64 m), (0, .str s), (8, .int .i64 x.a), (13, .ptr 1 (3 + i)), (58, .agg [.ptr 1 3, .ptr 1 4, .ptr 1 5]), (59, .int .i64 i), (7, .ptr 1 0), (2, .ptr 0 0), (3, .int .i64 0)]
def D3.H (s : Bs) (qs : List Qn) (an ns ar : List Rr) (i : Nat) (x : D3) : Heap := match x.l with
  | [] => [.cells false 25 [.int .i64 0, .int .i64 0, .emp true, .emp true, .emp true, .emp true], .cells false 25 [.int .i64 (headI s), .int .i64 (headF s), qsV qs, rrsV an, rrsV ns, rrsV ar]]
  | r :: rs => [.cells false 25 [.int .i64 0, .int .i64 0, .emp true, .emp true, .emp true, .emp true], .cells false 25 ([.int .i64 (headI s), .int .i64 (headF s), qsV qs, rrsV an, rrsV ns, rrsV ar].set (3 + i) (.sl 2 5 0 (r :: rs).length)), .cells false 79 (rCs (r :: rs))]
set_option maxHeartbeats 4000000 in
theorem s64 : Spec (EY T9) Tryz.f64 g64 := by
  intro args v hg
  unfold g64 at hg
  split at hg
  · rename_i s
    simp only [Option.some.injEq, Prod.mk.injEq, true_and, decide_eq_true_eq, Bool.and_eq_true] at hg
    obtain ⟨hs, rfl⟩ := hg
    refine ⟨(by simp [Solids, Solid, Solidss]), ?_⟩
    have err : ∀ e, decV s = .inl e → decM s = ⟨0, 0, [], [], [], []⟩ ∧ decE s = e := fun e h => by unfold decM decE; rw [h]; exact ⟨rfl, rfl⟩
    have good : ∀ m, decV s = .inr m → decM s = m ∧ decE s = 0 := fun e h => by unfold decM decE; rw [h]; exact ⟨rfl, rfl⟩
    (conv => whnf)
    refine obl (decide_eq_true hs) ?_
    (conv => whnf)
    refine tst (fun h1 => ?_) (fun h1 => ?_)
    · have hl : 65535 < s.length := by simp only [decide_eq_true_eq] at h1; omega
      obtain ⟨r1, r2⟩ := err 6 (by unfold decV; rw [if_pos hl])
      rw [r1, r2]
      (conv => whnf)
      (refine ⟨_, _, rfl, ?_, ⟨_, _, rfl, ?_, rfl⟩⟩) <;> (conv => whnf)
      · (refine ⟨_, _, rfl, ?_, ⟨_, _, rfl, ?_, ⟨_, _, rfl, ?_, ⟨_, _, rfl, ?_, ⟨_, _, rfl, ?_, ⟨_, _, rfl, ?_, rfl⟩⟩⟩⟩⟩⟩) <;> (conv => whnf)
        all_goals first | rfl | exact ⟨rfl, trivial⟩ | exact ⟨rfl, rfl⟩
      · exact ⟨rfl, rfl⟩
    have hl : ¬ 65535 < s.length := by simp only [decide_eq_false_iff_not] at h1; omega
    (conv => whnf)
    refine tst (fun h2 => ?_) (fun h2 => ?_)
    · have hh : headB s = false := by simpa using h2
      obtain ⟨r1, r2⟩ := err 2 (by unfold decV; rw [if_neg hl, if_pos hh])
      rw [r1, r2]
      (conv => whnf)
      (refine ⟨_, _, rfl, ?_, ⟨_, _, rfl, ?_, rfl⟩⟩) <;> (conv => whnf)
      · (refine ⟨_, _, rfl, ?_, ⟨_, _, rfl, ?_, ⟨_, _, rfl, ?_, ⟨_, _, rfl, ?_, ⟨_, _, rfl, ?_, ⟨_, _, rfl, ?_, rfl⟩⟩⟩⟩⟩⟩) <;> (conv => whnf)
        all_goals first | rfl | exact ⟨rfl, trivial⟩ | exact ⟨rfl, rfl⟩
      · exact ⟨rfl, rfl⟩
    have hh : headB s = true := by simpa using h2
    have hd : decV s = match qsN s (cntV s 0) 12 [] with
      | .inl e => .inl e
      | .inr (qs, a) => fin0 s (headI s) (headF s) qs a := by unfold decV; rw [if_neg hl, if_neg (by simp [hh])]; rfl
    have h12 : 12 ≤ s.length := by simpa [headB] using hh
    (conv => whnf)
    refine obl (by simp [hs]) ?_
    (conv => whnf)
    have hb0 := getV_bound s (4 + 2 * 0) 2
    have hc0 : ((cntV s 0 : Nat) : Int) = getV s (4 + 2 * 0) 2 := by unfold cntV; omega
    have hcb : cntV s 0 ≤ 65535 := cntV_le s 0
    refine loopq (X := D1) (fun x => x.i ≤ cntV s 0 ∧ x.l.length = x.i ∧ 0 ≤ x.a ∧ x.a ≤ s.length ∧ qsN s (cntV s 0 - x.i) x.a x.l = qsN s (cntV s 0) 12 []) (D1.S s (cntV s 0)) (D1.H (headI s) (headF s)) (fun x => cntV s 0 - x.i) ?_ ⟨0, 12, []⟩ ⟨Nat.zero_le _, rfl, by decide, show (12 : Int) ≤ s.length by omega, rfl⟩
      ⟨[0, 1], rfl, rfl, ⟨⟨rfl, trivial⟩, ⟨?_, trivial⟩, ⟨rfl, trivial⟩, ⟨rfl, trivial⟩, ⟨rfl, rfl⟩, ⟨rfl, rfl⟩, ⟨rfl, trivial⟩, trivial⟩,
        ⟨⟨[.int .i64 0, .int .i64 0, .emp true, .emp true, .emp true, .emp true], rfl, RenL.solid _ (solidsB_ok _ rfl)⟩, ⟨[.int .i64 (headI s), .int .i64 (headF s), .emp true, .emp true, .emp true, .emp true], rfl, RenL.solid _ (solidsB_ok _ rfl)⟩, trivial⟩⟩
    · rintro ⟨i, a, l⟩ ⟨i1, i2, i3, i4, i5⟩ J hn1 hx1
      simp only at i1 i2 i3 i4 i5
      cases l with
      | nil =>
        (conv => whnf)
        refine tst (fun h3 => ?_) (fun h3 => ?_)
        · have hi9 : i < cntV s 0 := by simpa using h3
          obtain ⟨k, hk⟩ : ∃ k, cntV s 0 - i = k + 1 := ⟨cntV s 0 - i - 1, by omega⟩
          have hk' : cntV s 0 - (i + 1) = k := by omega
          rw [hk] at i5
          simp only [qsN] at i5
          (conv => whnf)
          refine obl (by simp only [Bool.and_eq_true, decide_eq_true_eq]; exact ⟨hs, by show a ≤ _; omega⟩) ?_
          (conv => whnf)
          refine tst (fun h4 => ?_) (fun h4 => ?_)
          · have hq : (qV s a).2.2 ≠ 0 := by simpa using h4
            rw [if_neg hq] at i5
            obtain ⟨r1, r2⟩ := err (qV s a).2.2 (by rw [hd, ← i5])
            (conv => whnf)
            refine hx1 _ _ _ (by intro e; cases e) ?_
            rw [r1, r2]
            (conv => whnf)
            (refine ⟨_, _, rfl, ?_, ⟨_, _, rfl, ?_, rfl⟩⟩) <;> (conv => whnf)
            · (refine ⟨_, _, rfl, ?_, ⟨_, _, rfl, ?_, ⟨_, _, rfl, ?_, ⟨_, _, rfl, ?_, ⟨_, _, rfl, ?_, ⟨_, _, rfl, ?_, rfl⟩⟩⟩⟩⟩⟩) <;> (conv => whnf)
              all_goals first | rfl | exact ⟨rfl, trivial⟩ | exact ⟨rfl, rfl⟩
            · exact ⟨rfl, rfl⟩
          have hq : (qV s a).2.2 = 0 := by simpa using h4
          have hnx := qV_next hq
          rw [if_pos hq] at i5
          (conv => whnf)
          refine hn1 ⟨i + 1, (qV s a).2.1, [(qV s a).1]⟩ _ _ ⟨Nat.succ_le_of_lt hi9, ?_, hnx.1, hnx.2, ?_⟩ (show cntV s 0 - (i + 1) < cntV s 0 - i by omega)
            ⟨[0, 1, 4], rfl, rfl, ⟨⟨?_, trivial⟩, ⟨rfl, trivial⟩, ⟨rfl, trivial⟩, ⟨rfl, trivial⟩, ⟨rfl, rfl⟩, ⟨rfl, rfl⟩, ⟨rfl, trivial⟩, trivial⟩,
              ⟨⟨[.int .i64 0, .int .i64 0, .emp true, .emp true, .emp true, .emp true], rfl, RenL.solid _ (solidsB_ok _ rfl)⟩, ⟨[.int .i64 (headI s), .int .i64 (headF s), .sl 4 3 0 1, .emp true, .emp true, .emp true], rfl, ?_⟩, ⟨[.str (qV s a).1.name, .int .i64 (qV s a).1.kind, .int .i64 (qV s a).1.cls], rfl, RenL.solid _ (solidsB_ok _ rfl)⟩, trivial⟩⟩
          · show 0 + 1 = i + 1; simp at i2; omega
          · show qsN s (cntV s 0 - (i + 1)) _ _ = _
            rw [hk']; exact i5
          · show AV.int .i64 (IntKind.i64.wrap ((i : Int) + 1)) = _
            rw [wr (by omega) (by omega)]; rfl
          · exact ⟨_, _, rfl, ⟨rfl, trivial⟩, _, _, rfl, ⟨rfl, trivial⟩, _, _, rfl, ⟨rfl, rfl⟩, _, _, rfl, ⟨rfl, trivial⟩, _, _, rfl, ⟨rfl, trivial⟩, _, _, rfl, ⟨rfl, trivial⟩, rfl⟩
        · have hi9 : ¬ i < cntV s 0 := by simpa using h3
          have hie : cntV s 0 - i = 0 := by omega
          rw [hie] at i5
          simp only [qsN] at i5
          rw [← i5] at hd
          simp only at hd
          (conv => whnf)
          refine hx1 _ _ _ (by intro e; cases e) ?_
          (conv => whnf)
          obtain ⟨qs, hqs⟩ : ∃ qs : List Qn, ([] : List Qn) = qs := ⟨_, rfl⟩
          rw [hqs] at hd
          have hR : fin0 s (headI s) (headF s) qs a = decV s := hd.symm
          refine loopq (X := D2) (D2.I s qs) (D2.S s) (D2.H s qs) (fun x => 3 - x.i) ?_ ⟨0, a, [], [], []⟩ ⟨Nat.zero_le _, i3, i4, fun _ => ⟨rfl, rfl, rfl, hR⟩, (fun h => nomatch h), (fun h => nomatch h), (fun h => nomatch h)⟩
            ⟨[0, 1], rfl, rfl, ⟨⟨rfl, trivial⟩, ⟨_, rfl, _, _, rfl, ⟨rfl, rfl⟩, _, _, rfl, ⟨rfl, rfl⟩, _, _, rfl, ⟨rfl, rfl⟩, rfl⟩, ⟨rfl, trivial⟩, ⟨rfl, trivial⟩, ⟨rfl, rfl⟩, ⟨rfl, rfl⟩, ⟨rfl, trivial⟩, trivial⟩,
                ⟨⟨[.int .i64 0, .int .i64 0, .emp true, .emp true, .emp true, .emp true], rfl, RenL.solid _ (solidsB_ok _ rfl)⟩, ⟨[.int .i64 (headI s), .int .i64 (headF s), .emp true, .emp true, .emp true, .emp true], rfl, _, _, rfl, ⟨rfl, trivial⟩, _, _, rfl, ⟨rfl, trivial⟩, _, _, rfl, (by subst hqs; exact ⟨rfl, trivial⟩), _, _, rfl, ⟨rfl, trivial⟩, _, _, rfl, ⟨rfl, trivial⟩, _, _, rfl, ⟨rfl, trivial⟩, rfl⟩, trivial⟩⟩
          rintro ⟨i, a, an, ns, ar⟩ ⟨i1, i3, i4, j0, j1, j2, j3⟩ J hn hx
          simp only at i1 i3 i4 j0 j1 j2 j3
          match i, i1, j0, j1, j2, j3 with
          | 0, i1, j0, j1, j2, j3 =>
            obtain ⟨e1, e2, e3, hf⟩ := j0 rfl
            subst e1; subst e2; subst e3
            (conv => whnf)
            have wk : IntKind.i64.wrap (1 + ((0 : Nat) : Int)) = 1 := by decide
            refine obl (by simp only [Bool.and_eq_true, decide_eq_true_eq]; exact ⟨⟨hs, show 0 ≤ IntKind.i64.wrap (1 + ((0 : Nat) : Int)) by decide⟩, show IntKind.i64.wrap (1 + ((0 : Nat) : Int)) ≤ 10 by decide⟩) ?_
            rw [wk]
            (conv => whnf)
            have hb1 := getV_bound s (4 + 2 * 1) 2
            have hc1 : ((cntV s 1 : Nat) : Int) = getV s (4 + 2 * 1) 2 := by unfold cntV; omega
            have hcb1 := cntV_le s 1
            rw [← hc1]
            generalize hm : cntV s 1 = m at *
            unfold fin0 at hf
            rw [hm] at hf
            generalize hrr : rrN s m a [] = rr at hf
            refine loopq (X := D3) (fun x => x.j ≤ m ∧ x.l.length = x.j ∧ 0 ≤ x.a ∧ x.a ≤ s.length ∧ rrN s (m - x.j) x.a x.l = rr) (D3.S s m 0) (D3.H s qs [] [] [] 0) (fun x => m - x.j) ?_ ⟨0, a, []⟩ ⟨Nat.zero_le _, rfl, i3, i4, hrr⟩
              ⟨[0, 1], rfl, rfl, ⟨⟨rfl, trivial⟩, ⟨rfl, trivial⟩, ⟨rfl, trivial⟩, ⟨rfl, trivial⟩, ⟨rfl, rfl⟩, ⟨_, rfl, _, _, rfl, ⟨rfl, rfl⟩, _, _, rfl, ⟨rfl, rfl⟩, _, _, rfl, ⟨rfl, rfl⟩, rfl⟩, ⟨rfl, trivial⟩, ⟨rfl, rfl⟩, ⟨rfl, rfl⟩, ⟨rfl, trivial⟩, trivial⟩,
                ⟨⟨[.int .i64 0, .int .i64 0, .emp true, .emp true, .emp true, .emp true], rfl, RenL.solid _ (solidsB_ok _ rfl)⟩, ⟨_, rfl, ⟨_, _, rfl, ⟨rfl, trivial⟩, _, _, rfl, ⟨rfl, trivial⟩, _, _, rfl, RenV.solid _ (solid_qsV _), _, _, rfl, ⟨rfl, trivial⟩, _, _, rfl, ⟨rfl, trivial⟩, _, _, rfl, ⟨rfl, trivial⟩, rfl⟩⟩, trivial⟩⟩
            rintro ⟨j, b, l⟩ ⟨k1, k2, k3, k4, k5⟩ J2 hn2 hx2
            simp only at k1 k2 k3 k4 k5
            cases l with
            | nil =>
              (conv => whnf)
              refine tst (fun h5 => ?_) (fun h5 => ?_)
              · have hi9 : j < m := by simpa using h5
                obtain ⟨k, hk⟩ : ∃ k, m - j = k + 1 := ⟨m - j - 1, by omega⟩
                have hk' : m - (j + 1) = k := by omega
                rw [hk] at k5
                simp only [rrN] at k5
                (conv => whnf)
                refine obl (by simp only [Bool.and_eq_true, decide_eq_true_eq]; exact ⟨hs, by show b ≤ _; omega⟩) ?_
                (conv => whnf)
                refine tst (fun h6 => ?_) (fun h6 => ?_)
                · have hq : (rrV s b).2.2 ≠ 0 := by simpa using h6
                  rw [if_neg hq] at k5
                  rw [← k5] at hf
                  obtain ⟨r1, r2⟩ := err (rrV s b).2.2 hf.symm
                  (conv => whnf)
                  refine hx2 _ _ _ (by intro e; cases e) ?_
                  (conv => whnf)
                  refine hx _ _ _ (by intro e; cases e) ?_
                  rw [r1, r2]
                  (conv => whnf)
                  (refine ⟨_, _, rfl, ?_, ⟨_, _, rfl, ?_, rfl⟩⟩) <;> (conv => whnf)
                  · (refine ⟨_, _, rfl, ?_, ⟨_, _, rfl, ?_, ⟨_, _, rfl, ?_, ⟨_, _, rfl, ?_, ⟨_, _, rfl, ?_, ⟨_, _, rfl, ?_, rfl⟩⟩⟩⟩⟩⟩) <;> (conv => whnf)
                    all_goals first | rfl | exact ⟨rfl, trivial⟩ | exact ⟨rfl, rfl⟩
                  · exact ⟨rfl, rfl⟩
                have hq : (rrV s b).2.2 = 0 := by simpa using h6
                have hnx := rrV_next hq
                rw [if_pos hq] at k5
                (conv => whnf)
                refine hn2 ⟨j + 1, (rrV s b).2.1, [(rrV s b).1]⟩ _ _ ⟨Nat.succ_le_of_lt hi9, ?_, hnx.1, hnx.2, ?_⟩ (show m - (j + 1) < m - j by omega)
                  ⟨[0, 1, 4], rfl, rfl, ⟨?_, ⟨rfl, trivial⟩, ⟨rfl, trivial⟩, ⟨rfl, trivial⟩, ⟨rfl, rfl⟩, ⟨_, rfl, _, _, rfl, ⟨rfl, rfl⟩, _, _, rfl, ⟨rfl, rfl⟩, _, _, rfl, ⟨rfl, rfl⟩, rfl⟩, ⟨rfl, trivial⟩, ⟨rfl, rfl⟩, ⟨rfl, rfl⟩, ⟨rfl, trivial⟩, trivial⟩, ⟨⟨[.int .i64 0, .int .i64 0, .emp true, .emp true, .emp true, .emp true], rfl, RenL.solid _ (solidsB_ok _ rfl)⟩, ⟨[.int .i64 (headI s), .int .i64 (headF s), qsV qs, .sl 4 5 0 1, rrsV [], rrsV []], rfl, ⟨_, _, rfl, ⟨rfl, trivial⟩, _, _, rfl, ⟨rfl, trivial⟩, _, _, rfl, RenV.solid _ (solid_qsV _), _, _, rfl, ⟨rfl, rfl⟩, _, _, rfl, RenV.solid _ (solid_rrsV _), _, _, rfl, RenV.solid _ (solid_rrsV _), rfl⟩⟩, ⟨[.str (rrV s b).1.name, .int .i64 (rrV s b).1.kind, .int .i64 (rrV s b).1.cls, .int .i64 (rrV s b).1.ttl, .str (rrV s b).1.data], rfl, RenL.solid _ (solidsB_ok _ rfl)⟩, trivial⟩⟩
                · show 0 + 1 = j + 1; simp at k2; omega
                · show rrN s (m - (j + 1)) _ _ = _
                  rw [hk']; exact k5
                · show AV.int .i64 (IntKind.i64.wrap ((j : Int) + 1)) = _ ∧ _
                  rw [wr (by omega) (by omega)]; exact ⟨rfl, trivial⟩
              · have hi9 : ¬ j < m := by simpa using h5
                have hie : m - j = 0 := by omega
                rw [hie] at k5
                simp only [rrN] at k5
                rw [← k5] at hf
                simp only at hf
                (conv => whnf)
                refine hx2 _ _ _ (by intro e; cases e) ?_
                (conv => whnf)
                refine hn ⟨1, b, [], [], []⟩ _ _ ⟨show 1 ≤ 3 by decide, k3, k4, (fun h => nomatch h), fun _ => ⟨rfl, rfl, hf⟩, (fun h => nomatch h), (fun h => nomatch h)⟩ (show 3 - 1 < 3 - 0 by decide)
                  ⟨[0, 1], rfl, rfl, ⟨⟨congrArg (AV.int .i64) (show IntKind.i64.wrap (((0 : Nat) : Int) + 1) = ((1 : Nat) : Int) by decide), trivial⟩, ⟨_, rfl, _, _, rfl, ⟨rfl, rfl⟩, _, _, rfl, ⟨rfl, rfl⟩, _, _, rfl, ⟨rfl, rfl⟩, rfl⟩, ⟨rfl, trivial⟩, ⟨rfl, trivial⟩, ⟨rfl, rfl⟩, ⟨rfl, rfl⟩, ⟨rfl, trivial⟩, trivial⟩,
                    ⟨⟨[.int .i64 0, .int .i64 0, .emp true, .emp true, .emp true, .emp true], rfl, RenL.solid _ (solidsB_ok _ rfl)⟩, ⟨_, rfl, ⟨_, _, rfl, ⟨rfl, trivial⟩, _, _, rfl, ⟨rfl, trivial⟩, _, _, rfl, RenV.solid _ (solid_qsV _), _, _, rfl, ⟨rfl, trivial⟩, _, _, rfl, RenV.solid _ (solid_rrsV _), _, _, rfl, RenV.solid _ (solid_rrsV _), rfl⟩⟩, trivial⟩⟩
            | cons r l =>
              (conv => whnf)
              refine tst (fun h5 => ?_) (fun h5 => ?_)
              · have hi9 : j < m := by simpa using h5
                obtain ⟨k, hk⟩ : ∃ k, m - j = k + 1 := ⟨m - j - 1, by omega⟩
                have hk' : m - (j + 1) = k := by omega
                rw [hk] at k5
                simp only [rrN] at k5
                (conv => whnf)
                refine obl (by simp only [Bool.and_eq_true, decide_eq_true_eq]; exact ⟨hs, by show b ≤ _; omega⟩) ?_
                (conv => whnf)
                refine tst (fun h6 => ?_) (fun h6 => ?_)
                · have hq : (rrV s b).2.2 ≠ 0 := by simpa using h6
                  rw [if_neg hq] at k5
                  rw [← k5] at hf
                  obtain ⟨r1, r2⟩ := err (rrV s b).2.2 hf.symm
                  (conv => whnf)
                  refine hx2 _ _ _ (by intro e; cases e) ?_
                  (conv => whnf)
                  refine hx _ _ _ (by intro e; cases e) ?_
                  rw [r1, r2]
                  (conv => whnf)
                  (refine ⟨_, _, rfl, ?_, ⟨_, _, rfl, ?_, rfl⟩⟩) <;> (conv => whnf)
                  · (refine ⟨_, _, rfl, ?_, ⟨_, _, rfl, ?_, ⟨_, _, rfl, ?_, ⟨_, _, rfl, ?_, ⟨_, _, rfl, ?_, ⟨_, _, rfl, ?_, rfl⟩⟩⟩⟩⟩⟩) <;> (conv => whnf)
                    all_goals first | rfl | exact ⟨rfl, trivial⟩ | exact ⟨rfl, rfl⟩
                  · exact ⟨rfl, rfl⟩
                have hq : (rrV s b).2.2 = 0 := by simpa using h6
                have hnx := rrV_next hq
                rw [if_pos hq] at k5
                (conv => whnf)
                have tk : List.take ((r :: l).length * 5) (rCs (r :: l)) = rCs (r :: l) := List.take_of_length_le (by rw [rCs_length]; omega)
                refine obl ?_ ?_
                · show (true && Nat.beq 79 79 && Nat.beq 5 5 && Nat.beq 0 0 && ((r :: l).length * 5).beq (List.take ((r :: l).length * 5) (rCs (r :: l))).length && roomy ((r :: l).length + 1) 56) = true
                  rw [tk, rCs_length]
                  simp only [Nat.beq_eq, roomy, Nat.ble_eq, Bool.and_eq_true, true_and, and_true]
                  omega
                (conv => whnf)
                refine hn2 ⟨j + 1, (rrV s b).2.1, r :: l ++ [(rrV s b).1]⟩ _ _ ⟨Nat.succ_le_of_lt hi9, ?_, hnx.1, hnx.2, ?_⟩ (show m - (j + 1) < m - j by omega)
                  ⟨[0, 1, 5], rfl, rfl, ⟨?_, ⟨rfl, trivial⟩, ⟨rfl, trivial⟩, ⟨rfl, trivial⟩, ⟨rfl, rfl⟩, ⟨_, rfl, _, _, rfl, ⟨rfl, rfl⟩, _, _, rfl, ⟨rfl, rfl⟩, _, _, rfl, ⟨rfl, rfl⟩, rfl⟩, ⟨rfl, trivial⟩, ⟨rfl, rfl⟩, ⟨rfl, rfl⟩, ⟨rfl, trivial⟩, trivial⟩, ⟨⟨[.int .i64 0, .int .i64 0, .emp true, .emp true, .emp true, .emp true], rfl, RenL.solid _ (solidsB_ok _ rfl)⟩, ⟨[.int .i64 (headI s), .int .i64 (headF s), qsV qs, .sl 5 5 0 ((r :: l).length + 1), rrsV [], rrsV []], rfl, ?_⟩, ⟨List.take ((r :: l).length * 5) (rCs (r :: l)) ++ [.str (rrV s b).1.name, .int .i64 (rrV s b).1.kind, .int .i64 (rrV s b).1.cls, .int .i64 (rrV s b).1.ttl, .str (rrV s b).1.data], rfl, ?_⟩, trivial⟩⟩
                · show (r :: l ++ [(rrV s b).1]).length = j + 1; rw [List.length_append, k2]; rfl
                · show rrN s (m - (j + 1)) _ _ = _
                  rw [hk']; exact k5
                · show AV.int .i64 (IntKind.i64.wrap ((j : Int) + 1)) = _ ∧ _
                  rw [wr (by omega) (by omega)]; exact ⟨rfl, trivial⟩
                · have eL : AV.sl 5 5 0 ((r :: l).length + 1) = AV.sl 5 5 0 (r :: l ++ [(rrV s b).1]).length := by rw [List.length_append]; rfl
                  rw [eL]
                  exact ⟨_, _, rfl, ⟨rfl, trivial⟩, _, _, rfl, ⟨rfl, trivial⟩, _, _, rfl, RenV.solid _ (solid_qsV _), _, _, rfl, ⟨rfl, rfl⟩, _, _, rfl, RenV.solid _ (solid_rrsV _), _, _, rfl, RenV.solid _ (solid_rrsV _), rfl⟩
                · refine renL_eq (solid_rCs _) ?_
                  rw [tk]
                  simp [rCs, rC]
              · have hi9 : ¬ j < m := by simpa using h5
                have hie : m - j = 0 := by omega
                rw [hie] at k5
                simp only [rrN] at k5
                rw [← k5] at hf
                simp only at hf
                (conv => whnf)
                refine hx2 _ _ _ (by intro e; cases e) ?_
                (conv => whnf)
                refine hn ⟨1, b, (r :: l), [], []⟩ _ _ ⟨show 1 ≤ 3 by decide, k3, k4, (fun h => nomatch h), fun _ => ⟨rfl, rfl, hf⟩, (fun h => nomatch h), (fun h => nomatch h)⟩ (show 3 - 1 < 3 - 0 by decide)
                  ⟨[0, 1], rfl, rfl, ⟨⟨congrArg (AV.int .i64) (show IntKind.i64.wrap (((0 : Nat) : Int) + 1) = ((1 : Nat) : Int) by decide), trivial⟩, ⟨_, rfl, _, _, rfl, ⟨rfl, rfl⟩, _, _, rfl, ⟨rfl, rfl⟩, _, _, rfl, ⟨rfl, rfl⟩, rfl⟩, ⟨rfl, trivial⟩, ⟨rfl, trivial⟩, ⟨rfl, rfl⟩, ⟨rfl, rfl⟩, ⟨rfl, trivial⟩, trivial⟩,
                    ⟨⟨[.int .i64 0, .int .i64 0, .emp true, .emp true, .emp true, .emp true], rfl, RenL.solid _ (solidsB_ok _ rfl)⟩, ⟨_, rfl, ⟨_, _, rfl, ⟨rfl, trivial⟩, _, _, rfl, ⟨rfl, trivial⟩, _, _, rfl, RenV.solid _ (solid_qsV _), _, _, rfl, ⟨rfl, by simp, by show 0 + (r :: l).length * 5 ≤ (rCs (r :: l)).length; rw [rCs_length]; omega, finRQ_any (solid_rR _) (rR_len _) rfl⟩, _, _, rfl, RenV.solid _ (solid_rrsV _), _, _, rfl, RenV.solid _ (solid_rrsV _), rfl⟩⟩, trivial⟩⟩
          | 1, i1, j0, j1, j2, j3 =>
            obtain ⟨e2, e3, hf⟩ := j1 rfl
            subst e2; subst e3
            (conv => whnf)
            have wk : IntKind.i64.wrap (1 + ((1 : Nat) : Int)) = 2 := by decide
            refine obl (by simp only [Bool.and_eq_true, decide_eq_true_eq]; exact ⟨⟨hs, show 0 ≤ IntKind.i64.wrap (1 + ((1 : Nat) : Int)) by decide⟩, show IntKind.i64.wrap (1 + ((1 : Nat) : Int)) ≤ 10 by decide⟩) ?_
            rw [wk]
            (conv => whnf)
            have hb1 := getV_bound s (4 + 2 * 2) 2
            have hc1 : ((cntV s 2 : Nat) : Int) = getV s (4 + 2 * 2) 2 := by unfold cntV; omega
            have hcb1 := cntV_le s 2
            rw [← hc1]
            generalize hm : cntV s 2 = m at *
            unfold fin1 at hf
            rw [hm] at hf
            generalize hrr : rrN s m a [] = rr at hf
            refine loopq (X := D3) (fun x => x.j ≤ m ∧ x.l.length = x.j ∧ 0 ≤ x.a ∧ x.a ≤ s.length ∧ rrN s (m - x.j) x.a x.l = rr) (D3.S s m 1) (D3.H s qs an [] [] 1) (fun x => m - x.j) ?_ ⟨0, a, []⟩ ⟨Nat.zero_le _, rfl, i3, i4, hrr⟩
              ⟨[0, 1], rfl, rfl, ⟨⟨rfl, trivial⟩, ⟨rfl, trivial⟩, ⟨rfl, trivial⟩, ⟨rfl, trivial⟩, ⟨rfl, rfl⟩, ⟨_, rfl, _, _, rfl, ⟨rfl, rfl⟩, _, _, rfl, ⟨rfl, rfl⟩, _, _, rfl, ⟨rfl, rfl⟩, rfl⟩, ⟨rfl, trivial⟩, ⟨rfl, rfl⟩, ⟨rfl, rfl⟩, ⟨rfl, trivial⟩, trivial⟩,
                ⟨⟨[.int .i64 0, .int .i64 0, .emp true, .emp true, .emp true, .emp true], rfl, RenL.solid _ (solidsB_ok _ rfl)⟩, ⟨_, rfl, ⟨_, _, rfl, ⟨rfl, trivial⟩, _, _, rfl, ⟨rfl, trivial⟩, _, _, rfl, RenV.solid _ (solid_qsV _), _, _, rfl, RenV.solid _ (solid_rrsV _), _, _, rfl, ⟨rfl, trivial⟩, _, _, rfl, ⟨rfl, trivial⟩, rfl⟩⟩, trivial⟩⟩
            rintro ⟨j, b, l⟩ ⟨k1, k2, k3, k4, k5⟩ J2 hn2 hx2
            simp only at k1 k2 k3 k4 k5
            cases l with
            | nil =>
              (conv => whnf)
              refine tst (fun h5 => ?_) (fun h5 => ?_)
              · have hi9 : j < m := by simpa using h5
                obtain ⟨k, hk⟩ : ∃ k, m - j = k + 1 := ⟨m - j - 1, by omega⟩
                have hk' : m - (j + 1) = k := by omega
                rw [hk] at k5
                simp only [rrN] at k5
                (conv => whnf)
                refine obl (by simp only [Bool.and_eq_true, decide_eq_true_eq]; exact ⟨hs, by show b ≤ _; omega⟩) ?_
                (conv => whnf)
                refine tst (fun h6 => ?_) (fun h6 => ?_)
                · have hq : (rrV s b).2.2 ≠ 0 := by simpa using h6
                  rw [if_neg hq] at k5
                  rw [← k5] at hf
                  obtain ⟨r1, r2⟩ := err (rrV s b).2.2 hf.symm
                  (conv => whnf)
                  refine hx2 _ _ _ (by intro e; cases e) ?_
                  (conv => whnf)
                  refine hx _ _ _ (by intro e; cases e) ?_
                  rw [r1, r2]
                  (conv => whnf)
                  (refine ⟨_, _, rfl, ?_, ⟨_, _, rfl, ?_, rfl⟩⟩) <;> (conv => whnf)
                  · (refine ⟨_, _, rfl, ?_, ⟨_, _, rfl, ?_, ⟨_, _, rfl, ?_, ⟨_, _, rfl, ?_, ⟨_, _, rfl, ?_, ⟨_, _, rfl, ?_, rfl⟩⟩⟩⟩⟩⟩) <;> (conv => whnf)
                    all_goals first | rfl | exact ⟨rfl, trivial⟩ | exact ⟨rfl, rfl⟩
                  · exact ⟨rfl, rfl⟩
                have hq : (rrV s b).2.2 = 0 := by simpa using h6
                have hnx := rrV_next hq
                rw [if_pos hq] at k5
                (conv => whnf)
                refine hn2 ⟨j + 1, (rrV s b).2.1, [(rrV s b).1]⟩ _ _ ⟨Nat.succ_le_of_lt hi9, ?_, hnx.1, hnx.2, ?_⟩ (show m - (j + 1) < m - j by omega)
                  ⟨[0, 1, 4], rfl, rfl, ⟨?_, ⟨rfl, trivial⟩, ⟨rfl, trivial⟩, ⟨rfl, trivial⟩, ⟨rfl, rfl⟩, ⟨_, rfl, _, _, rfl, ⟨rfl, rfl⟩, _, _, rfl, ⟨rfl, rfl⟩, _, _, rfl, ⟨rfl, rfl⟩, rfl⟩, ⟨rfl, trivial⟩, ⟨rfl, rfl⟩, ⟨rfl, rfl⟩, ⟨rfl, trivial⟩, trivial⟩, ⟨⟨[.int .i64 0, .int .i64 0, .emp true, .emp true, .emp true, .emp true], rfl, RenL.solid _ (solidsB_ok _ rfl)⟩, ⟨[.int .i64 (headI s), .int .i64 (headF s), qsV qs, rrsV an, .sl 4 5 0 1, rrsV []], rfl, ⟨_, _, rfl, ⟨rfl, trivial⟩, _, _, rfl, ⟨rfl, trivial⟩, _, _, rfl, RenV.solid _ (solid_qsV _), _, _, rfl, RenV.solid _ (solid_rrsV _), _, _, rfl, ⟨rfl, rfl⟩, _, _, rfl, RenV.solid _ (solid_rrsV _), rfl⟩⟩, ⟨[.str (rrV s b).1.name, .int .i64 (rrV s b).1.kind, .int .i64 (rrV s b).1.cls, .int .i64 (rrV s b).1.ttl, .str (rrV s b).1.data], rfl, RenL.solid _ (solidsB_ok _ rfl)⟩, trivial⟩⟩
                · show 0 + 1 = j + 1; simp at k2; omega
                · show rrN s (m - (j + 1)) _ _ = _
                  rw [hk']; exact k5
                · show AV.int .i64 (IntKind.i64.wrap ((j : Int) + 1)) = _ ∧ _
                  rw [wr (by omega) (by omega)]; exact ⟨rfl, trivial⟩
              · have hi9 : ¬ j < m := by simpa using h5
                have hie : m - j = 0 := by omega
                rw [hie] at k5
                simp only [rrN] at k5
                rw [← k5] at hf
                simp only at hf
                (conv => whnf)
                refine hx2 _ _ _ (by intro e; cases e) ?_
                (conv => whnf)
                refine hn ⟨2, b, an, [], []⟩ _ _ ⟨show 2 ≤ 3 by decide, k3, k4, (fun h => nomatch h), (fun h => nomatch h), fun _ => ⟨rfl, hf⟩, (fun h => nomatch h)⟩ (show 3 - 2 < 3 - 1 by decide)
                  ⟨[0, 1], rfl, rfl, ⟨⟨congrArg (AV.int .i64) (show IntKind.i64.wrap (((1 : Nat) : Int) + 1) = ((2 : Nat) : Int) by decide), trivial⟩, ⟨_, rfl, _, _, rfl, ⟨rfl, rfl⟩, _, _, rfl, ⟨rfl, rfl⟩, _, _, rfl, ⟨rfl, rfl⟩, rfl⟩, ⟨rfl, trivial⟩, ⟨rfl, trivial⟩, ⟨rfl, rfl⟩, ⟨rfl, rfl⟩, ⟨rfl, trivial⟩, trivial⟩,
                    ⟨⟨[.int .i64 0, .int .i64 0, .emp true, .emp true, .emp true, .emp true], rfl, RenL.solid _ (solidsB_ok _ rfl)⟩, ⟨_, rfl, ⟨_, _, rfl, ⟨rfl, trivial⟩, _, _, rfl, ⟨rfl, trivial⟩, _, _, rfl, RenV.solid _ (solid_qsV _), _, _, rfl, RenV.solid _ (solid_rrsV _), _, _, rfl, ⟨rfl, trivial⟩, _, _, rfl, RenV.solid _ (solid_rrsV _), rfl⟩⟩, trivial⟩⟩
            | cons r l =>
              (conv => whnf)
              refine tst (fun h5 => ?_) (fun h5 => ?_)
              · have hi9 : j < m := by simpa using h5
                obtain ⟨k, hk⟩ : ∃ k, m - j = k + 1 := ⟨m - j - 1, by omega⟩
                have hk' : m - (j + 1) = k := by omega
                rw [hk] at k5
                simp only [rrN] at k5
                (conv => whnf)
                refine obl (by simp only [Bool.and_eq_true, decide_eq_true_eq]; exact ⟨hs, by show b ≤ _; omega⟩) ?_
                (conv => whnf)
                refine tst (fun h6 => ?_) (fun h6 => ?_)
                · have hq : (rrV s b).2.2 ≠ 0 := by simpa using h6
                  rw [if_neg hq] at k5
                  rw [← k5] at hf
                  obtain ⟨r1, r2⟩ := err (rrV s b).2.2 hf.symm
                  (conv => whnf)
                  refine hx2 _ _ _ (by intro e; cases e) ?_
                  (conv => whnf)
                  refine hx _ _ _ (by intro e; cases e) ?_
                  rw [r1, r2]
                  (conv => whnf)
                  (refine ⟨_, _, rfl, ?_, ⟨_, _, rfl, ?_, rfl⟩⟩) <;> (conv => whnf)
                  · (refine ⟨_, _, rfl, ?_, ⟨_, _, rfl, ?_, ⟨_, _, rfl, ?_, ⟨_, _, rfl, ?_, ⟨_, _, rfl, ?_, ⟨_, _, rfl, ?_, rfl⟩⟩⟩⟩⟩⟩) <;> (conv => whnf)
                    all_goals first | rfl | exact ⟨rfl, trivial⟩ | exact ⟨rfl, rfl⟩
                  · exact ⟨rfl, rfl⟩
                have hq : (rrV s b).2.2 = 0 := by simpa using h6
                have hnx := rrV_next hq
                rw [if_pos hq] at k5
                (conv => whnf)
                have tk : List.take ((r :: l).length * 5) (rCs (r :: l)) = rCs (r :: l) := List.take_of_length_le (by rw [rCs_length]; omega)
                refine obl ?_ ?_
                · show (true && Nat.beq 79 79 && Nat.beq 5 5 && Nat.beq 0 0 && ((r :: l).length * 5).beq (List.take ((r :: l).length * 5) (rCs (r :: l))).length && roomy ((r :: l).length + 1) 56) = true
                  rw [tk, rCs_length]
                  simp only [Nat.beq_eq, roomy, Nat.ble_eq, Bool.and_eq_true, true_and, and_true]
                  omega
                (conv => whnf)
                refine hn2 ⟨j + 1, (rrV s b).2.1, r :: l ++ [(rrV s b).1]⟩ _ _ ⟨Nat.succ_le_of_lt hi9, ?_, hnx.1, hnx.2, ?_⟩ (show m - (j + 1) < m - j by omega)
                  ⟨[0, 1, 5], rfl, rfl, ⟨?_, ⟨rfl, trivial⟩, ⟨rfl, trivial⟩, ⟨rfl, trivial⟩, ⟨rfl, rfl⟩, ⟨_, rfl, _, _, rfl, ⟨rfl, rfl⟩, _, _, rfl, ⟨rfl, rfl⟩, _, _, rfl, ⟨rfl, rfl⟩, rfl⟩, ⟨rfl, trivial⟩, ⟨rfl, rfl⟩, ⟨rfl, rfl⟩, ⟨rfl, trivial⟩, trivial⟩, ⟨⟨[.int .i64 0, .int .i64 0, .emp true, .emp true, .emp true, .emp true], rfl, RenL.solid _ (solidsB_ok _ rfl)⟩, ⟨[.int .i64 (headI s), .int .i64 (headF s), qsV qs, rrsV an, .sl 5 5 0 ((r :: l).length + 1), rrsV []], rfl, ?_⟩, ⟨List.take ((r :: l).length * 5) (rCs (r :: l)) ++ [.str (rrV s b).1.name, .int .i64 (rrV s b).1.kind, .int .i64 (rrV s b).1.cls, .int .i64 (rrV s b).1.ttl, .str (rrV s b).1.data], rfl, ?_⟩, trivial⟩⟩
                · show (r :: l ++ [(rrV s b).1]).length = j + 1; rw [List.length_append, k2]; rfl
                · show rrN s (m - (j + 1)) _ _ = _
                  rw [hk']; exact k5
                · show AV.int .i64 (IntKind.i64.wrap ((j : Int) + 1)) = _ ∧ _
                  rw [wr (by omega) (by omega)]; exact ⟨rfl, trivial⟩
                · have eL : AV.sl 5 5 0 ((r :: l).length + 1) = AV.sl 5 5 0 (r :: l ++ [(rrV s b).1]).length := by rw [List.length_append]; rfl
                  rw [eL]
                  exact ⟨_, _, rfl, ⟨rfl, trivial⟩, _, _, rfl, ⟨rfl, trivial⟩, _, _, rfl, RenV.solid _ (solid_qsV _), _, _, rfl, RenV.solid _ (solid_rrsV _), _, _, rfl, ⟨rfl, rfl⟩, _, _, rfl, RenV.solid _ (solid_rrsV _), rfl⟩
                · refine renL_eq (solid_rCs _) ?_
                  rw [tk]
                  simp [rCs, rC]
              · have hi9 : ¬ j < m := by simpa using h5
                have hie : m - j = 0 := by omega
                rw [hie] at k5
                simp only [rrN] at k5
                rw [← k5] at hf
                simp only at hf
                (conv => whnf)
                refine hx2 _ _ _ (by intro e; cases e) ?_
                (conv => whnf)
                refine hn ⟨2, b, an, (r :: l), []⟩ _ _ ⟨show 2 ≤ 3 by decide, k3, k4, (fun h => nomatch h), (fun h => nomatch h), fun _ => ⟨rfl, hf⟩, (fun h => nomatch h)⟩ (show 3 - 2 < 3 - 1 by decide)
                  ⟨[0, 1], rfl, rfl, ⟨⟨congrArg (AV.int .i64) (show IntKind.i64.wrap (((1 : Nat) : Int) + 1) = ((2 : Nat) : Int) by decide), trivial⟩, ⟨_, rfl, _, _, rfl, ⟨rfl, rfl⟩, _, _, rfl, ⟨rfl, rfl⟩, _, _, rfl, ⟨rfl, rfl⟩, rfl⟩, ⟨rfl, trivial⟩, ⟨rfl, trivial⟩, ⟨rfl, rfl⟩, ⟨rfl, rfl⟩, ⟨rfl, trivial⟩, trivial⟩,
                    ⟨⟨[.int .i64 0, .int .i64 0, .emp true, .emp true, .emp true, .emp true], rfl, RenL.solid _ (solidsB_ok _ rfl)⟩, ⟨_, rfl, ⟨_, _, rfl, ⟨rfl, trivial⟩, _, _, rfl, ⟨rfl, trivial⟩, _, _, rfl, RenV.solid _ (solid_qsV _), _, _, rfl, RenV.solid _ (solid_rrsV _), _, _, rfl, ⟨rfl, by simp, by show 0 + (r :: l).length * 5 ≤ (rCs (r :: l)).length; rw [rCs_length]; omega, finRQ_any (solid_rR _) (rR_len _) rfl⟩, _, _, rfl, RenV.solid _ (solid_rrsV _), rfl⟩⟩, trivial⟩⟩
          | 2, i1, j0, j1, j2, j3 =>
            obtain ⟨e3, hf⟩ := j2 rfl
            subst e3
            (conv => whnf)
            have wk : IntKind.i64.wrap (1 + ((2 : Nat) : Int)) = 3 := by decide
            refine obl (by simp only [Bool.and_eq_true, decide_eq_true_eq]; exact ⟨⟨hs, show 0 ≤ IntKind.i64.wrap (1 + ((2 : Nat) : Int)) by decide⟩, show IntKind.i64.wrap (1 + ((2 : Nat) : Int)) ≤ 10 by decide⟩) ?_
            rw [wk]
            (conv => whnf)
            have hb1 := getV_bound s (4 + 2 * 3) 2
            have hc1 : ((cntV s 3 : Nat) : Int) = getV s (4 + 2 * 3) 2 := by unfold cntV; omega
            have hcb1 := cntV_le s 3
            rw [← hc1]
            generalize hm : cntV s 3 = m at *
            unfold fin2 at hf
            rw [hm] at hf
            generalize hrr : rrN s m a [] = rr at hf
            refine loopq (X := D3) (fun x => x.j ≤ m ∧ x.l.length = x.j ∧ 0 ≤ x.a ∧ x.a ≤ s.length ∧ rrN s (m - x.j) x.a x.l = rr) (D3.S s m 2) (D3.H s qs an ns [] 2) (fun x => m - x.j) ?_ ⟨0, a, []⟩ ⟨Nat.zero_le _, rfl, i3, i4, hrr⟩
              ⟨[0, 1], rfl, rfl, ⟨⟨rfl, trivial⟩, ⟨rfl, trivial⟩, ⟨rfl, trivial⟩, ⟨rfl, trivial⟩, ⟨rfl, rfl⟩, ⟨_, rfl, _, _, rfl, ⟨rfl, rfl⟩, _, _, rfl, ⟨rfl, rfl⟩, _, _, rfl, ⟨rfl, rfl⟩, rfl⟩, ⟨rfl, trivial⟩, ⟨rfl, rfl⟩, ⟨rfl, rfl⟩, ⟨rfl, trivial⟩, trivial⟩,
                ⟨⟨[.int .i64 0, .int .i64 0, .emp true, .emp true, .emp true, .emp true], rfl, RenL.solid _ (solidsB_ok _ rfl)⟩, ⟨_, rfl, ⟨_, _, rfl, ⟨rfl, trivial⟩, _, _, rfl, ⟨rfl, trivial⟩, _, _, rfl, RenV.solid _ (solid_qsV _), _, _, rfl, RenV.solid _ (solid_rrsV _), _, _, rfl, RenV.solid _ (solid_rrsV _), _, _, rfl, ⟨rfl, trivial⟩, rfl⟩⟩, trivial⟩⟩
            rintro ⟨j, b, l⟩ ⟨k1, k2, k3, k4, k5⟩ J2 hn2 hx2
            simp only at k1 k2 k3 k4 k5
            cases l with
            | nil =>
              (conv => whnf)
              refine tst (fun h5 => ?_) (fun h5 => ?_)
              · have hi9 : j < m := by simpa using h5
                obtain ⟨k, hk⟩ : ∃ k, m - j = k + 1 := ⟨m - j - 1, by omega⟩
                have hk' : m - (j + 1) = k := by omega
                rw [hk] at k5
                simp only [rrN] at k5
                (conv => whnf)
                refine obl (by simp only [Bool.and_eq_true, decide_eq_true_eq]; exact ⟨hs, by show b ≤ _; omega⟩) ?_
                (conv => whnf)
                refine tst (fun h6 => ?_) (fun h6 => ?_)
                · have hq : (rrV s b).2.2 ≠ 0 := by simpa using h6
                  rw [if_neg hq] at k5
                  rw [← k5] at hf
                  obtain ⟨r1, r2⟩ := err (rrV s b).2.2 hf.symm
                  (conv => whnf)
                  refine hx2 _ _ _ (by intro e; cases e) ?_
                  (conv => whnf)
                  refine hx _ _ _ (by intro e; cases e) ?_
                  rw [r1, r2]
                  (conv => whnf)
                  (refine ⟨_, _, rfl, ?_, ⟨_, _, rfl, ?_, rfl⟩⟩) <;> (conv => whnf)
                  · (refine ⟨_, _, rfl, ?_, ⟨_, _, rfl, ?_, ⟨_, _, rfl, ?_, ⟨_, _, rfl, ?_, ⟨_, _, rfl, ?_, ⟨_, _, rfl, ?_, rfl⟩⟩⟩⟩⟩⟩) <;> (conv => whnf)
                    all_goals first | rfl | exact ⟨rfl, trivial⟩ | exact ⟨rfl, rfl⟩
                  · exact ⟨rfl, rfl⟩
                have hq : (rrV s b).2.2 = 0 := by simpa using h6
                have hnx := rrV_next hq
                rw [if_pos hq] at k5
                (conv => whnf)
                refine hn2 ⟨j + 1, (rrV s b).2.1, [(rrV s b).1]⟩ _ _ ⟨Nat.succ_le_of_lt hi9, ?_, hnx.1, hnx.2, ?_⟩ (show m - (j + 1) < m - j by omega)
                  ⟨[0, 1, 4], rfl, rfl, ⟨?_, ⟨rfl, trivial⟩, ⟨rfl, trivial⟩, ⟨rfl, trivial⟩, ⟨rfl, rfl⟩, ⟨_, rfl, _, _, rfl, ⟨rfl, rfl⟩, _, _, rfl, ⟨rfl, rfl⟩, _, _, rfl, ⟨rfl, rfl⟩, rfl⟩, ⟨rfl, trivial⟩, ⟨rfl, rfl⟩, ⟨rfl, rfl⟩, ⟨rfl, trivial⟩, trivial⟩, ⟨⟨[.int .i64 0, .int .i64 0, .emp true, .emp true, .emp true, .emp true], rfl, RenL.solid _ (solidsB_ok _ rfl)⟩, ⟨[.int .i64 (headI s), .int .i64 (headF s), qsV qs, rrsV an, rrsV ns, .sl 4 5 0 1], rfl, ⟨_, _, rfl, ⟨rfl, trivial⟩, _, _, rfl, ⟨rfl, trivial⟩, _, _, rfl, RenV.solid _ (solid_qsV _), _, _, rfl, RenV.solid _ (solid_rrsV _), _, _, rfl, RenV.solid _ (solid_rrsV _), _, _, rfl, ⟨rfl, rfl⟩, rfl⟩⟩, ⟨[.str (rrV s b).1.name, .int .i64 (rrV s b).1.kind, .int .i64 (rrV s b).1.cls, .int .i64 (rrV s b).1.ttl, .str (rrV s b).1.data], rfl, RenL.solid _ (solidsB_ok _ rfl)⟩, trivial⟩⟩
                · show 0 + 1 = j + 1; simp at k2; omega
                · show rrN s (m - (j + 1)) _ _ = _
                  rw [hk']; exact k5
                · show AV.int .i64 (IntKind.i64.wrap ((j : Int) + 1)) = _ ∧ _
                  rw [wr (by omega) (by omega)]; exact ⟨rfl, trivial⟩
              · have hi9 : ¬ j < m := by simpa using h5
                have hie : m - j = 0 := by omega
                rw [hie] at k5
                simp only [rrN] at k5
                rw [← k5] at hf
                simp only at hf
                (conv => whnf)
                refine hx2 _ _ _ (by intro e; cases e) ?_
                (conv => whnf)
                refine hn ⟨3, b, an, ns, []⟩ _ _ ⟨show 3 ≤ 3 by decide, k3, k4, (fun h => nomatch h), (fun h => nomatch h), (fun h => nomatch h), fun _ => hf⟩ (show 3 - 3 < 3 - 2 by decide)
                  ⟨[0, 1], rfl, rfl, ⟨⟨congrArg (AV.int .i64) (show IntKind.i64.wrap (((2 : Nat) : Int) + 1) = ((3 : Nat) : Int) by decide), trivial⟩, ⟨_, rfl, _, _, rfl, ⟨rfl, rfl⟩, _, _, rfl, ⟨rfl, rfl⟩, _, _, rfl, ⟨rfl, rfl⟩, rfl⟩, ⟨rfl, trivial⟩, ⟨rfl, trivial⟩, ⟨rfl, rfl⟩, ⟨rfl, rfl⟩, ⟨rfl, trivial⟩, trivial⟩,
                    ⟨⟨[.int .i64 0, .int .i64 0, .emp true, .emp true, .emp true, .emp true], rfl, RenL.solid _ (solidsB_ok _ rfl)⟩, ⟨_, rfl, ⟨_, _, rfl, ⟨rfl, trivial⟩, _, _, rfl, ⟨rfl, trivial⟩, _, _, rfl, RenV.solid _ (solid_qsV _), _, _, rfl, RenV.solid _ (solid_rrsV _), _, _, rfl, RenV.solid _ (solid_rrsV _), _, _, rfl, ⟨rfl, trivial⟩, rfl⟩⟩, trivial⟩⟩
            | cons r l =>
              (conv => whnf)
              refine tst (fun h5 => ?_) (fun h5 => ?_)
              · have hi9 : j < m := by simpa using h5
                obtain ⟨k, hk⟩ : ∃ k, m - j = k + 1 := ⟨m - j - 1, by omega⟩
                have hk' : m - (j + 1) = k := by omega
                rw [hk] at k5
                simp only [rrN] at k5
                (conv => whnf)
                refine obl (by simp only [Bool.and_eq_true, decide_eq_true_eq]; exact ⟨hs, by show b ≤ _; omega⟩) ?_
                (conv => whnf)
                refine tst (fun h6 => ?_) (fun h6 => ?_)
                · have hq : (rrV s b).2.2 ≠ 0 := by simpa using h6
                  rw [if_neg hq] at k5
                  rw [← k5] at hf
                  obtain ⟨r1, r2⟩ := err (rrV s b).2.2 hf.symm
                  (conv => whnf)
                  refine hx2 _ _ _ (by intro e; cases e) ?_
                  (conv => whnf)
                  refine hx _ _ _ (by intro e; cases e) ?_
                  rw [r1, r2]
                  (conv => whnf)
                  (refine ⟨_, _, rfl, ?_, ⟨_, _, rfl, ?_, rfl⟩⟩) <;> (conv => whnf)
                  · (refine ⟨_, _, rfl, ?_, ⟨_, _, rfl, ?_, ⟨_, _, rfl, ?_, ⟨_, _, rfl, ?_, ⟨_, _, rfl, ?_, ⟨_, _, rfl, ?_, rfl⟩⟩⟩⟩⟩⟩) <;> (conv => whnf)
                    all_goals first | rfl | exact ⟨rfl, trivial⟩ | exact ⟨rfl, rfl⟩
                  · exact ⟨rfl, rfl⟩
                have hq : (rrV s b).2.2 = 0 := by simpa using h6
                have hnx := rrV_next hq
                rw [if_pos hq] at k5
                (conv => whnf)
                have tk : List.take ((r :: l).length * 5) (rCs (r :: l)) = rCs (r :: l) := List.take_of_length_le (by rw [rCs_length]; omega)
                refine obl ?_ ?_
                · show (true && Nat.beq 79 79 && Nat.beq 5 5 && Nat.beq 0 0 && ((r :: l).length * 5).beq (List.take ((r :: l).length * 5) (rCs (r :: l))).length && roomy ((r :: l).length + 1) 56) = true
                  rw [tk, rCs_length]
                  simp only [Nat.beq_eq, roomy, Nat.ble_eq, Bool.and_eq_true, true_and, and_true]
                  omega
                (conv => whnf)
                refine hn2 ⟨j + 1, (rrV s b).2.1, r :: l ++ [(rrV s b).1]⟩ _ _ ⟨Nat.succ_le_of_lt hi9, ?_, hnx.1, hnx.2, ?_⟩ (show m - (j + 1) < m - j by omega)
                  ⟨[0, 1, 5], rfl, rfl, ⟨?_, ⟨rfl, trivial⟩, ⟨rfl, trivial⟩, ⟨rfl, trivial⟩, ⟨rfl, rfl⟩, ⟨_, rfl, _, _, rfl, ⟨rfl, rfl⟩, _, _, rfl, ⟨rfl, rfl⟩, _, _, rfl, ⟨rfl, rfl⟩, rfl⟩, ⟨rfl, trivial⟩, ⟨rfl, rfl⟩, ⟨rfl, rfl⟩, ⟨rfl, trivial⟩, trivial⟩, ⟨⟨[.int .i64 0, .int .i64 0, .emp true, .emp true, .emp true, .emp true], rfl, RenL.solid _ (solidsB_ok _ rfl)⟩, ⟨[.int .i64 (headI s), .int .i64 (headF s), qsV qs, rrsV an, rrsV ns, .sl 5 5 0 ((r :: l).length + 1)], rfl, ?_⟩, ⟨List.take ((r :: l).length * 5) (rCs (r :: l)) ++ [.str (rrV s b).1.name, .int .i64 (rrV s b).1.kind, .int .i64 (rrV s b).1.cls, .int .i64 (rrV s b).1.ttl, .str (rrV s b).1.data], rfl, ?_⟩, trivial⟩⟩
                · show (r :: l ++ [(rrV s b).1]).length = j + 1; rw [List.length_append, k2]; rfl
                · show rrN s (m - (j + 1)) _ _ = _
                  rw [hk']; exact k5
                · show AV.int .i64 (IntKind.i64.wrap ((j : Int) + 1)) = _ ∧ _
                  rw [wr (by omega) (by omega)]; exact ⟨rfl, trivial⟩
                · have eL : AV.sl 5 5 0 ((r :: l).length + 1) = AV.sl 5 5 0 (r :: l ++ [(rrV s b).1]).length := by rw [List.length_append]; rfl
                  rw [eL]
                  exact ⟨_, _, rfl, ⟨rfl, trivial⟩, _, _, rfl, ⟨rfl, trivial⟩, _, _, rfl, RenV.solid _ (solid_qsV _), _, _, rfl, RenV.solid _ (solid_rrsV _), _, _, rfl, RenV.solid _ (solid_rrsV _), _, _, rfl, ⟨rfl, rfl⟩, rfl⟩
                · refine renL_eq (solid_rCs _) ?_
                  rw [tk]
                  simp [rCs, rC]
              · have hi9 : ¬ j < m := by simpa using h5
                have hie : m - j = 0 := by omega
                rw [hie] at k5
                simp only [rrN] at k5
                rw [← k5] at hf
                simp only at hf
                (conv => whnf)
                refine hx2 _ _ _ (by intro e; cases e) ?_
                (conv => whnf)
                refine hn ⟨3, b, an, ns, (r :: l)⟩ _ _ ⟨show 3 ≤ 3 by decide, k3, k4, (fun h => nomatch h), (fun h => nomatch h), (fun h => nomatch h), fun _ => hf⟩ (show 3 - 3 < 3 - 2 by decide)
                  ⟨[0, 1], rfl, rfl, ⟨⟨congrArg (AV.int .i64) (show IntKind.i64.wrap (((2 : Nat) : Int) + 1) = ((3 : Nat) : Int) by decide), trivial⟩, ⟨_, rfl, _, _, rfl, ⟨rfl, rfl⟩, _, _, rfl, ⟨rfl, rfl⟩, _, _, rfl, ⟨rfl, rfl⟩, rfl⟩, ⟨rfl, trivial⟩, ⟨rfl, trivial⟩, ⟨rfl, rfl⟩, ⟨rfl, rfl⟩, ⟨rfl, trivial⟩, trivial⟩,
                    ⟨⟨[.int .i64 0, .int .i64 0, .emp true, .emp true, .emp true, .emp true], rfl, RenL.solid _ (solidsB_ok _ rfl)⟩, ⟨_, rfl, ⟨_, _, rfl, ⟨rfl, trivial⟩, _, _, rfl, ⟨rfl, trivial⟩, _, _, rfl, RenV.solid _ (solid_qsV _), _, _, rfl, RenV.solid _ (solid_rrsV _), _, _, rfl, RenV.solid _ (solid_rrsV _), _, _, rfl, ⟨rfl, by simp, by show 0 + (r :: l).length * 5 ≤ (rCs (r :: l)).length; rw [rCs_length]; omega, finRQ_any (solid_rR _) (rR_len _) rfl⟩, rfl⟩⟩, trivial⟩⟩
          | 3, i1, j0, j1, j2, j3 =>
            have hf := j3 rfl
            (conv => whnf)
            refine hx _ _ _ (by intro e; cases e) ?_
            (conv => whnf)
            refine tst (fun h5 => ?_) (fun h5 => ?_)
            · have hq : a ≠ s.length := by simpa using h5
              obtain ⟨r1, r2⟩ := err 5 (by rw [← hf]; unfold fin3; rw [if_neg hq])
              rw [r1, r2]
              (conv => whnf)
              (refine ⟨_, _, rfl, ?_, ⟨_, _, rfl, ?_, rfl⟩⟩) <;> (conv => whnf)
              · (refine ⟨_, _, rfl, ?_, ⟨_, _, rfl, ?_, ⟨_, _, rfl, ?_, ⟨_, _, rfl, ?_, ⟨_, _, rfl, ?_, ⟨_, _, rfl, ?_, rfl⟩⟩⟩⟩⟩⟩) <;> (conv => whnf)
                all_goals first | rfl | exact ⟨rfl, trivial⟩ | exact ⟨rfl, rfl⟩
              · exact ⟨rfl, rfl⟩
            · have hq : a = s.length := by simpa using h5
              obtain ⟨r1, r2⟩ := good ⟨headI s, headF s, qs, an, ns, ar⟩ (by rw [← hf]; unfold fin3; rw [if_pos hq])
              rw [r1, r2]
              (conv => whnf)
              (refine ⟨_, _, rfl, ?_, ⟨_, _, rfl, ?_, rfl⟩⟩) <;> (conv => whnf)
              · (refine ⟨_, _, rfl, ?_, ⟨_, _, rfl, ?_, ⟨_, _, rfl, ?_, ⟨_, _, rfl, ?_, ⟨_, _, rfl, ?_, ⟨_, _, rfl, ?_, rfl⟩⟩⟩⟩⟩⟩) <;> (conv => whnf)
                all_goals first | rfl | exact ⟨rfl, trivial⟩ | exact ⟨rfl, rfl⟩ | exact FinQ.solid _ (solid_qsV _) | exact FinQ.solid _ (solid_rrsV _)
              · exact ⟨rfl, rfl⟩
          | n + 4, i1, _, _, _, _ => exact absurd i1 (by omega)
      | cons q l =>
        (conv => whnf)
        refine tst (fun h3 => ?_) (fun h3 => ?_)
        · have hi9 : i < cntV s 0 := by simpa using h3
          obtain ⟨k, hk⟩ : ∃ k, cntV s 0 - i = k + 1 := ⟨cntV s 0 - i - 1, by omega⟩
          have hk' : cntV s 0 - (i + 1) = k := by omega
          rw [hk] at i5
          simp only [qsN] at i5
          (conv => whnf)
          refine obl (by simp only [Bool.and_eq_true, decide_eq_true_eq]; exact ⟨hs, by show a ≤ _; omega⟩) ?_
          (conv => whnf)
          refine tst (fun h4 => ?_) (fun h4 => ?_)
          · have hq : (qV s a).2.2 ≠ 0 := by simpa using h4
            rw [if_neg hq] at i5
            obtain ⟨r1, r2⟩ := err (qV s a).2.2 (by rw [hd, ← i5])
            (conv => whnf)
            refine hx1 _ _ _ (by intro e; cases e) ?_
            rw [r1, r2]
            (conv => whnf)
            (refine ⟨_, _, rfl, ?_, ⟨_, _, rfl, ?_, rfl⟩⟩) <;> (conv => whnf)
            · (refine ⟨_, _, rfl, ?_, ⟨_, _, rfl, ?_, ⟨_, _, rfl, ?_, ⟨_, _, rfl, ?_, ⟨_, _, rfl, ?_, ⟨_, _, rfl, ?_, rfl⟩⟩⟩⟩⟩⟩) <;> (conv => whnf)
              all_goals first | rfl | exact ⟨rfl, trivial⟩ | exact ⟨rfl, rfl⟩
            · exact ⟨rfl, rfl⟩
          have hq : (qV s a).2.2 = 0 := by simpa using h4
          have hnx := qV_next hq
          rw [if_pos hq] at i5
          (conv => whnf)
          have tk : List.take ((q :: l).length * 3) (qCs (q :: l)) = qCs (q :: l) := List.take_of_length_le (by rw [qCs_length]; omega)
          refine obl ?_ ?_
          · show (true && Nat.beq 32 32 && Nat.beq 3 3 && Nat.beq 0 0 && ((q :: l).length * 3).beq (List.take ((q :: l).length * 3) (qCs (q :: l))).length && roomy ((q :: l).length + 1) 32) = true
            rw [tk, qCs_length]
            simp only [Nat.beq_eq, roomy, Nat.ble_eq, Bool.and_eq_true, true_and, and_true]
            omega
          (conv => whnf)
          refine hn1 ⟨i + 1, (qV s a).2.1, q :: l ++ [(qV s a).1]⟩ _ _ ⟨Nat.succ_le_of_lt hi9, ?_, hnx.1, hnx.2, ?_⟩ (show cntV s 0 - (i + 1) < cntV s 0 - i by omega)
            ⟨[0, 1, 5], rfl, rfl, ⟨⟨?_, trivial⟩, ⟨rfl, trivial⟩, ⟨rfl, trivial⟩, ⟨rfl, trivial⟩, ⟨rfl, rfl⟩, ⟨rfl, rfl⟩, ⟨rfl, trivial⟩, trivial⟩,
              ⟨⟨[.int .i64 0, .int .i64 0, .emp true, .emp true, .emp true, .emp true], rfl, RenL.solid _ (solidsB_ok _ rfl)⟩, ⟨[.int .i64 (headI s), .int .i64 (headF s), .sl 5 3 0 ((q :: l).length + 1), .emp true, .emp true, .emp true], rfl, ?_⟩, ⟨List.take ((q :: l).length * 3) (qCs (q :: l)) ++ [.str (qV s a).1.name, .int .i64 (qV s a).1.kind, .int .i64 (qV s a).1.cls], rfl, ?_⟩, trivial⟩⟩
          · show (q :: l ++ [(qV s a).1]).length = i + 1; rw [List.length_append, i2]; rfl
          · show qsN s (cntV s 0 - (i + 1)) _ _ = _
            rw [hk']; exact i5
          · show AV.int .i64 (IntKind.i64.wrap ((i : Int) + 1)) = _
            rw [wr (by omega) (by omega)]; rfl
          · have eL : AV.sl 5 3 0 ((q :: l).length + 1) = AV.sl 5 3 0 (q :: l ++ [(qV s a).1]).length := by rw [List.length_append]; rfl
            rw [eL]
            exact ⟨_, _, rfl, ⟨rfl, trivial⟩, _, _, rfl, ⟨rfl, trivial⟩, _, _, rfl, ⟨rfl, rfl⟩, _, _, rfl, ⟨rfl, trivial⟩, _, _, rfl, ⟨rfl, trivial⟩, _, _, rfl, ⟨rfl, trivial⟩, rfl⟩
          · refine renL_eq (solid_qCs _) ?_
            rw [tk]
            simp [qCs, qC]
        · have hi9 : ¬ i < cntV s 0 := by simpa using h3
          have hie : cntV s 0 - i = 0 := by omega
          rw [hie] at i5
          simp only [qsN] at i5
          rw [← i5] at hd
          simp only at hd
          (conv => whnf)
          refine hx1 _ _ _ (by intro e; cases e) ?_
          (conv => whnf)
          obtain ⟨qs, hqs⟩ : ∃ qs : List Qn, (q :: l : List Qn) = qs := ⟨_, rfl⟩
          rw [hqs] at hd
          have hR : fin0 s (headI s) (headF s) qs a = decV s := hd.symm
          refine loopq (X := D2) (D2.I s qs) (D2.S s) (D2.H s qs) (fun x => 3 - x.i) ?_ ⟨0, a, [], [], []⟩ ⟨Nat.zero_le _, i3, i4, fun _ => ⟨rfl, rfl, rfl, hR⟩, (fun h => nomatch h), (fun h => nomatch h), (fun h => nomatch h)⟩
            ⟨[0, 1], rfl, rfl, ⟨⟨rfl, trivial⟩, ⟨_, rfl, _, _, rfl, ⟨rfl, rfl⟩, _, _, rfl, ⟨rfl, rfl⟩, _, _, rfl, ⟨rfl, rfl⟩, rfl⟩, ⟨rfl, trivial⟩, ⟨rfl, trivial⟩, ⟨rfl, rfl⟩, ⟨rfl, rfl⟩, ⟨rfl, trivial⟩, trivial⟩,
                ⟨⟨[.int .i64 0, .int .i64 0, .emp true, .emp true, .emp true, .emp true], rfl, RenL.solid _ (solidsB_ok _ rfl)⟩, ⟨[.int .i64 (headI s), .int .i64 (headF s), .sl 2 3 0 (q :: l).length, .emp true, .emp true, .emp true], rfl, _, _, rfl, ⟨rfl, trivial⟩, _, _, rfl, ⟨rfl, trivial⟩, _, _, rfl, (by subst hqs; exact ⟨rfl, by simp, by rw [qCs_length]; omega, finRQ_any (solid_qR _) (qR_len _) rfl⟩), _, _, rfl, ⟨rfl, trivial⟩, _, _, rfl, ⟨rfl, trivial⟩, _, _, rfl, ⟨rfl, trivial⟩, rfl⟩, trivial⟩⟩
          rintro ⟨i, a, an, ns, ar⟩ ⟨i1, i3, i4, j0, j1, j2, j3⟩ J hn hx
          simp only at i1 i3 i4 j0 j1 j2 j3
          match i, i1, j0, j1, j2, j3 with
          | 0, i1, j0, j1, j2, j3 =>
            obtain ⟨e1, e2, e3, hf⟩ := j0 rfl
            subst e1; subst e2; subst e3
            (conv => whnf)
            have wk : IntKind.i64.wrap (1 + ((0 : Nat) : Int)) = 1 := by decide
            refine obl (by simp only [Bool.and_eq_true, decide_eq_true_eq]; exact ⟨⟨hs, show 0 ≤ IntKind.i64.wrap (1 + ((0 : Nat) : Int)) by decide⟩, show IntKind.i64.wrap (1 + ((0 : Nat) : Int)) ≤ 10 by decide⟩) ?_
            rw [wk]
            (conv => whnf)
            have hb1 := getV_bound s (4 + 2 * 1) 2
            have hc1 : ((cntV s 1 : Nat) : Int) = getV s (4 + 2 * 1) 2 := by unfold cntV; omega
            have hcb1 := cntV_le s 1
            rw [← hc1]
            generalize hm : cntV s 1 = m at *
            unfold fin0 at hf
            rw [hm] at hf
            generalize hrr : rrN s m a [] = rr at hf
            refine loopq (X := D3) (fun x => x.j ≤ m ∧ x.l.length = x.j ∧ 0 ≤ x.a ∧ x.a ≤ s.length ∧ rrN s (m - x.j) x.a x.l = rr) (D3.S s m 0) (D3.H s qs [] [] [] 0) (fun x => m - x.j) ?_ ⟨0, a, []⟩ ⟨Nat.zero_le _, rfl, i3, i4, hrr⟩
              ⟨[0, 1], rfl, rfl, ⟨⟨rfl, trivial⟩, ⟨rfl, trivial⟩, ⟨rfl, trivial⟩, ⟨rfl, trivial⟩, ⟨rfl, rfl⟩, ⟨_, rfl, _, _, rfl, ⟨rfl, rfl⟩, _, _, rfl, ⟨rfl, rfl⟩, _, _, rfl, ⟨rfl, rfl⟩, rfl⟩, ⟨rfl, trivial⟩, ⟨rfl, rfl⟩, ⟨rfl, rfl⟩, ⟨rfl, trivial⟩, trivial⟩,
                ⟨⟨[.int .i64 0, .int .i64 0, .emp true, .emp true, .emp true, .emp true], rfl, RenL.solid _ (solidsB_ok _ rfl)⟩, ⟨_, rfl, ⟨_, _, rfl, ⟨rfl, trivial⟩, _, _, rfl, ⟨rfl, trivial⟩, _, _, rfl, RenV.solid _ (solid_qsV _), _, _, rfl, ⟨rfl, trivial⟩, _, _, rfl, ⟨rfl, trivial⟩, _, _, rfl, ⟨rfl, trivial⟩, rfl⟩⟩, trivial⟩⟩
            rintro ⟨j, b, l⟩ ⟨k1, k2, k3, k4, k5⟩ J2 hn2 hx2
            simp only at k1 k2 k3 k4 k5
            cases l with
            | nil =>
              (conv => whnf)
              refine tst (fun h5 => ?_) (fun h5 => ?_)
              · have hi9 : j < m := by simpa using h5
                obtain ⟨k, hk⟩ : ∃ k, m - j = k + 1 := ⟨m - j - 1, by omega⟩
                have hk' : m - (j + 1) = k := by omega
                rw [hk] at k5
                simp only [rrN] at k5
                (conv => whnf)
                refine obl (by simp only [Bool.and_eq_true, decide_eq_true_eq]; exact ⟨hs, by show b ≤ _; omega⟩) ?_
                (conv => whnf)
                refine tst (fun h6 => ?_) (fun h6 => ?_)
                · have hq : (rrV s b).2.2 ≠ 0 := by simpa using h6
                  rw [if_neg hq] at k5
                  rw [← k5] at hf
                  obtain ⟨r1, r2⟩ := err (rrV s b).2.2 hf.symm
                  (conv => whnf)
                  refine hx2 _ _ _ (by intro e; cases e) ?_
                  (conv => whnf)
                  refine hx _ _ _ (by intro e; cases e) ?_
                  rw [r1, r2]
                  (conv => whnf)
                  (refine ⟨_, _, rfl, ?_, ⟨_, _, rfl, ?_, rfl⟩⟩) <;> (conv => whnf)
                  · (refine ⟨_, _, rfl, ?_, ⟨_, _, rfl, ?_, ⟨_, _, rfl, ?_, ⟨_, _, rfl, ?_, ⟨_, _, rfl, ?_, ⟨_, _, rfl, ?_, rfl⟩⟩⟩⟩⟩⟩) <;> (conv => whnf)
                    all_goals first | rfl | exact ⟨rfl, trivial⟩ | exact ⟨rfl, rfl⟩
                  · exact ⟨rfl, rfl⟩
                have hq : (rrV s b).2.2 = 0 := by simpa using h6
                have hnx := rrV_next hq
                rw [if_pos hq] at k5
                (conv => whnf)
                refine hn2 ⟨j + 1, (rrV s b).2.1, [(rrV s b).1]⟩ _ _ ⟨Nat.succ_le_of_lt hi9, ?_, hnx.1, hnx.2, ?_⟩ (show m - (j + 1) < m - j by omega)
                  ⟨[0, 1, 4], rfl, rfl, ⟨?_, ⟨rfl, trivial⟩, ⟨rfl, trivial⟩, ⟨rfl, trivial⟩, ⟨rfl, rfl⟩, ⟨_, rfl, _, _, rfl, ⟨rfl, rfl⟩, _, _, rfl, ⟨rfl, rfl⟩, _, _, rfl, ⟨rfl, rfl⟩, rfl⟩, ⟨rfl, trivial⟩, ⟨rfl, rfl⟩, ⟨rfl, rfl⟩, ⟨rfl, trivial⟩, trivial⟩, ⟨⟨[.int .i64 0, .int .i64 0, .emp true, .emp true, .emp true, .emp true], rfl, RenL.solid _ (solidsB_ok _ rfl)⟩, ⟨[.int .i64 (headI s), .int .i64 (headF s), qsV qs, .sl 4 5 0 1, rrsV [], rrsV []], rfl, ⟨_, _, rfl, ⟨rfl, trivial⟩, _, _, rfl, ⟨rfl, trivial⟩, _, _, rfl, RenV.solid _ (solid_qsV _), _, _, rfl, ⟨rfl, rfl⟩, _, _, rfl, RenV.solid _ (solid_rrsV _), _, _, rfl, RenV.solid _ (solid_rrsV _), rfl⟩⟩, ⟨[.str (rrV s b).1.name, .int .i64 (rrV s b).1.kind, .int .i64 (rrV s b).1.cls, .int .i64 (rrV s b).1.ttl, .str (rrV s b).1.data], rfl, RenL.solid _ (solidsB_ok _ rfl)⟩, trivial⟩⟩
                · show 0 + 1 = j + 1; simp at k2; omega
                · show rrN s (m - (j + 1)) _ _ = _
                  rw [hk']; exact k5
                · show AV.int .i64 (IntKind.i64.wrap ((j : Int) + 1)) = _ ∧ _
                  rw [wr (by omega) (by omega)]; exact ⟨rfl, trivial⟩
              · have hi9 : ¬ j < m := by simpa using h5
                have hie : m - j = 0 := by omega
                rw [hie] at k5
                simp only [rrN] at k5
                rw [← k5] at hf
                simp only at hf
                (conv => whnf)
                refine hx2 _ _ _ (by intro e; cases e) ?_
                (conv => whnf)
                refine hn ⟨1, b, [], [], []⟩ _ _ ⟨show 1 ≤ 3 by decide, k3, k4, (fun h => nomatch h), fun _ => ⟨rfl, rfl, hf⟩, (fun h => nomatch h), (fun h => nomatch h)⟩ (show 3 - 1 < 3 - 0 by decide)
                  ⟨[0, 1], rfl, rfl, ⟨⟨congrArg (AV.int .i64) (show IntKind.i64.wrap (((0 : Nat) : Int) + 1) = ((1 : Nat) : Int) by decide), trivial⟩, ⟨_, rfl, _, _, rfl, ⟨rfl, rfl⟩, _, _, rfl, ⟨rfl, rfl⟩, _, _, rfl, ⟨rfl, rfl⟩, rfl⟩, ⟨rfl, trivial⟩, ⟨rfl, trivial⟩, ⟨rfl, rfl⟩, ⟨rfl, rfl⟩, ⟨rfl, trivial⟩, trivial⟩,
                    ⟨⟨[.int .i64 0, .int .i64 0, .emp true, .emp true, .emp true, .emp true], rfl, RenL.solid _ (solidsB_ok _ rfl)⟩, ⟨_, rfl, ⟨_, _, rfl, ⟨rfl, trivial⟩, _, _, rfl, ⟨rfl, trivial⟩, _, _, rfl, RenV.solid _ (solid_qsV _), _, _, rfl, ⟨rfl, trivial⟩, _, _, rfl, RenV.solid _ (solid_rrsV _), _, _, rfl, RenV.solid _ (solid_rrsV _), rfl⟩⟩, trivial⟩⟩
            | cons r l =>
              (conv => whnf)
              refine tst (fun h5 => ?_) (fun h5 => ?_)
              · have hi9 : j < m := by simpa using h5
                obtain ⟨k, hk⟩ : ∃ k, m - j = k + 1 := ⟨m - j - 1, by omega⟩
                have hk' : m - (j + 1) = k := by omega
                rw [hk] at k5
                simp only [rrN] at k5
                (conv => whnf)
                refine obl (by simp only [Bool.and_eq_true, decide_eq_true_eq]; exact ⟨hs, by show b ≤ _; omega⟩) ?_
                (conv => whnf)
                refine tst (fun h6 => ?_) (fun h6 => ?_)
                · have hq : (rrV s b).2.2 ≠ 0 := by simpa using h6
                  rw [if_neg hq] at k5
                  rw [← k5] at hf
                  obtain ⟨r1, r2⟩ := err (rrV s b).2.2 hf.symm
                  (conv => whnf)
                  refine hx2 _ _ _ (by intro e; cases e) ?_
                  (conv => whnf)
                  refine hx _ _ _ (by intro e; cases e) ?_
                  rw [r1, r2]
                  (conv => whnf)
                  (refine ⟨_, _, rfl, ?_, ⟨_, _, rfl, ?_, rfl⟩⟩) <;> (conv => whnf)
                  · (refine ⟨_, _, rfl, ?_, ⟨_, _, rfl, ?_, ⟨_, _, rfl, ?_, ⟨_, _, rfl, ?_, ⟨_, _, rfl, ?_, ⟨_, _, rfl, ?_, rfl⟩⟩⟩⟩⟩⟩) <;> (conv => whnf)
                    all_goals first | rfl | exact ⟨rfl, trivial⟩ | exact ⟨rfl, rfl⟩
                  · exact ⟨rfl, rfl⟩
                have hq : (rrV s b).2.2 = 0 := by simpa using h6
                have hnx := rrV_next hq
                rw [if_pos hq] at k5
                (conv => whnf)
                have tk : List.take ((r :: l).length * 5) (rCs (r :: l)) = rCs (r :: l) := List.take_of_length_le (by rw [rCs_length]; omega)
                refine obl ?_ ?_
                · show (true && Nat.beq 79 79 && Nat.beq 5 5 && Nat.beq 0 0 && ((r :: l).length * 5).beq (List.take ((r :: l).length * 5) (rCs (r :: l))).length && roomy ((r :: l).length + 1) 56) = true
                  rw [tk, rCs_length]
                  simp only [Nat.beq_eq, roomy, Nat.ble_eq, Bool.and_eq_true, true_and, and_true]
                  omega
                (conv => whnf)
                refine hn2 ⟨j + 1, (rrV s b).2.1, r :: l ++ [(rrV s b).1]⟩ _ _ ⟨Nat.succ_le_of_lt hi9, ?_, hnx.1, hnx.2, ?_⟩ (show m - (j + 1) < m - j by omega)
                  ⟨[0, 1, 5], rfl, rfl, ⟨?_, ⟨rfl, trivial⟩, ⟨rfl, trivial⟩, ⟨rfl, trivial⟩, ⟨rfl, rfl⟩, ⟨_, rfl, _, _, rfl, ⟨rfl, rfl⟩, _, _, rfl, ⟨rfl, rfl⟩, _, _, rfl, ⟨rfl, rfl⟩, rfl⟩, ⟨rfl, trivial⟩, ⟨rfl, rfl⟩, ⟨rfl, rfl⟩, ⟨rfl, trivial⟩, trivial⟩, ⟨⟨[.int .i64 0, .int .i64 0, .emp true, .emp true, .emp true, .emp true], rfl, RenL.solid _ (solidsB_ok _ rfl)⟩, ⟨[.int .i64 (headI s), .int .i64 (headF s), qsV qs, .sl 5 5 0 ((r :: l).length + 1), rrsV [], rrsV []], rfl, ?_⟩, ⟨List.take ((r :: l).length * 5) (rCs (r :: l)) ++ [.str (rrV s b).1.name, .int .i64 (rrV s b).1.kind, .int .i64 (rrV s b).1.cls, .int .i64 (rrV s b).1.ttl, .str (rrV s b).1.data], rfl, ?_⟩, trivial⟩⟩
                · show (r :: l ++ [(rrV s b).1]).length = j + 1; rw [List.length_append, k2]; rfl
                · show rrN s (m - (j + 1)) _ _ = _
                  rw [hk']; exact k5
                · show AV.int .i64 (IntKind.i64.wrap ((j : Int) + 1)) = _ ∧ _
                  rw [wr (by omega) (by omega)]; exact ⟨rfl, trivial⟩
                · have eL : AV.sl 5 5 0 ((r :: l).length + 1) = AV.sl 5 5 0 (r :: l ++ [(rrV s b).1]).length := by rw [List.length_append]; rfl
                  rw [eL]
                  exact ⟨_, _, rfl, ⟨rfl, trivial⟩, _, _, rfl, ⟨rfl, trivial⟩, _, _, rfl, RenV.solid _ (solid_qsV _), _, _, rfl, ⟨rfl, rfl⟩, _, _, rfl, RenV.solid _ (solid_rrsV _), _, _, rfl, RenV.solid _ (solid_rrsV _), rfl⟩
                · refine renL_eq (solid_rCs _) ?_
                  rw [tk]
                  simp [rCs, rC]
              · have hi9 : ¬ j < m := by simpa using h5
                have hie : m - j = 0 := by omega
                rw [hie] at k5
                simp only [rrN] at k5
                rw [← k5] at hf
                simp only at hf
                (conv => whnf)
                refine hx2 _ _ _ (by intro e; cases e) ?_
                (conv => whnf)
                refine hn ⟨1, b, (r :: l), [], []⟩ _ _ ⟨show 1 ≤ 3 by decide, k3, k4, (fun h => nomatch h), fun _ => ⟨rfl, rfl, hf⟩, (fun h => nomatch h), (fun h => nomatch h)⟩ (show 3 - 1 < 3 - 0 by decide)
                  ⟨[0, 1], rfl, rfl, ⟨⟨congrArg (AV.int .i64) (show IntKind.i64.wrap (((0 : Nat) : Int) + 1) = ((1 : Nat) : Int) by decide), trivial⟩, ⟨_, rfl, _, _, rfl, ⟨rfl, rfl⟩, _, _, rfl, ⟨rfl, rfl⟩, _, _, rfl, ⟨rfl, rfl⟩, rfl⟩, ⟨rfl, trivial⟩, ⟨rfl, trivial⟩, ⟨rfl, rfl⟩, ⟨rfl, rfl⟩, ⟨rfl, trivial⟩, trivial⟩,
                    ⟨⟨[.int .i64 0, .int .i64 0, .emp true, .emp true, .emp true, .emp true], rfl, RenL.solid _ (solidsB_ok _ rfl)⟩, ⟨_, rfl, ⟨_, _, rfl, ⟨rfl, trivial⟩, _, _, rfl, ⟨rfl, trivial⟩, _, _, rfl, RenV.solid _ (solid_qsV _), _, _, rfl, ⟨rfl, by simp, by show 0 + (r :: l).length * 5 ≤ (rCs (r :: l)).length; rw [rCs_length]; omega, finRQ_any (solid_rR _) (rR_len _) rfl⟩, _, _, rfl, RenV.solid _ (solid_rrsV _), _, _, rfl, RenV.solid _ (solid_rrsV _), rfl⟩⟩, trivial⟩⟩
          | 1, i1, j0, j1, j2, j3 =>
            obtain ⟨e2, e3, hf⟩ := j1 rfl
            subst e2; subst e3
            (conv => whnf)
            have wk : IntKind.i64.wrap (1 + ((1 : Nat) : Int)) = 2 := by decide
            refine obl (by simp only [Bool.and_eq_true, decide_eq_true_eq]; exact ⟨⟨hs, show 0 ≤ IntKind.i64.wrap (1 + ((1 : Nat) : Int)) by decide⟩, show IntKind.i64.wrap (1 + ((1 : Nat) : Int)) ≤ 10 by decide⟩) ?_
            rw [wk]
            (conv => whnf)
            have hb1 := getV_bound s (4 + 2 * 2) 2
            have hc1 : ((cntV s 2 : Nat) : Int) = getV s (4 + 2 * 2) 2 := by unfold cntV; omega
            have hcb1 := cntV_le s 2
            rw [← hc1]
            generalize hm : cntV s 2 = m at *
            unfold fin1 at hf
            rw [hm] at hf
            generalize hrr : rrN s m a [] = rr at hf
            refine loopq (X := D3) (fun x => x.j ≤ m ∧ x.l.length = x.j ∧ 0 ≤ x.a ∧ x.a ≤ s.length ∧ rrN s (m - x.j) x.a x.l = rr) (D3.S s m 1) (D3.H s qs an [] [] 1) (fun x => m - x.j) ?_ ⟨0, a, []⟩ ⟨Nat.zero_le _, rfl, i3, i4, hrr⟩
              ⟨[0, 1], rfl, rfl, ⟨⟨rfl, trivial⟩, ⟨rfl, trivial⟩, ⟨rfl, trivial⟩, ⟨rfl, trivial⟩, ⟨rfl, rfl⟩, ⟨_, rfl, _, _, rfl, ⟨rfl, rfl⟩, _, _, rfl, ⟨rfl, rfl⟩, _, _, rfl, ⟨rfl, rfl⟩, rfl⟩, ⟨rfl, trivial⟩, ⟨rfl, rfl⟩, ⟨rfl, rfl⟩, ⟨rfl, trivial⟩, trivial⟩,
                ⟨⟨[.int .i64 0, .int .i64 0, .emp true, .emp true, .emp true, .emp true], rfl, RenL.solid _ (solidsB_ok _ rfl)⟩, ⟨_, rfl, ⟨_, _, rfl, ⟨rfl, trivial⟩, _, _, rfl, ⟨rfl, trivial⟩, _, _, rfl, RenV.solid _ (solid_qsV _), _, _, rfl, RenV.solid _ (solid_rrsV _), _, _, rfl, ⟨rfl, trivial⟩, _, _, rfl, ⟨rfl, trivial⟩, rfl⟩⟩, trivial⟩⟩
            rintro ⟨j, b, l⟩ ⟨k1, k2, k3, k4, k5⟩ J2 hn2 hx2
            simp only at k1 k2 k3 k4 k5
            cases l with
            | nil =>
              (conv => whnf)
              refine tst (fun h5 => ?_) (fun h5 => ?_)
              · have hi9 : j < m := by simpa using h5
                obtain ⟨k, hk⟩ : ∃ k, m - j = k + 1 := ⟨m - j - 1, by omega⟩
                have hk' : m - (j + 1) = k := by omega
                rw [hk] at k5
                simp only [rrN] at k5
                (conv => whnf)
                refine obl (by simp only [Bool.and_eq_true, decide_eq_true_eq]; exact ⟨hs, by show b ≤ _; omega⟩) ?_
                (conv => whnf)
                refine tst (fun h6 => ?_) (fun h6 => ?_)
                · have hq : (rrV s b).2.2 ≠ 0 := by simpa using h6
                  rw [if_neg hq] at k5
                  rw [← k5] at hf
                  obtain ⟨r1, r2⟩ := err (rrV s b).2.2 hf.symm
                  (conv => whnf)
                  refine hx2 _ _ _ (by intro e; cases e) ?_
                  (conv => whnf)
                  refine hx _ _ _ (by intro e; cases e) ?_
                  rw [r1, r2]
                  (conv => whnf)
                  (refine ⟨_, _, rfl, ?_, ⟨_, _, rfl, ?_, rfl⟩⟩) <;> (conv => whnf)
                  · (refine ⟨_, _, rfl, ?_, ⟨_, _, rfl, ?_, ⟨_, _, rfl, ?_, ⟨_, _, rfl, ?_, ⟨_, _, rfl, ?_, ⟨_, _, rfl, ?_, rfl⟩⟩⟩⟩⟩⟩) <;> (conv => whnf)
                    all_goals first | rfl | exact ⟨rfl, trivial⟩ | exact ⟨rfl, rfl⟩
                  · exact ⟨rfl, rfl⟩
                have hq : (rrV s b).2.2 = 0 := by simpa using h6
                have hnx := rrV_next hq
                rw [if_pos hq] at k5
                (conv => whnf)
                refine hn2 ⟨j + 1, (rrV s b).2.1, [(rrV s b).1]⟩ _ _ ⟨Nat.succ_le_of_lt hi9, ?_, hnx.1, hnx.2, ?_⟩ (show m - (j + 1) < m - j by omega)
                  ⟨[0, 1, 4], rfl, rfl, ⟨?_, ⟨rfl, trivial⟩, ⟨rfl, trivial⟩, ⟨rfl, trivial⟩, ⟨rfl, rfl⟩, ⟨_, rfl, _, _, rfl, ⟨rfl, rfl⟩, _, _, rfl, ⟨rfl, rfl⟩, _, _, rfl, ⟨rfl, rfl⟩, rfl⟩, ⟨rfl, trivial⟩, ⟨rfl, rfl⟩, ⟨rfl, rfl⟩, ⟨rfl, trivial⟩, trivial⟩, ⟨⟨[.int .i64 0, .int .i64 0, .emp true, .emp true, .emp true, .emp true], rfl, RenL.solid _ (solidsB_ok _ rfl)⟩, ⟨[.int .i64 (headI s), .int .i64 (headF s), qsV qs, rrsV an, .sl 4 5 0 1, rrsV []], rfl, ⟨_, _, rfl, ⟨rfl, trivial⟩, _, _, rfl, ⟨rfl, trivial⟩, _, _, rfl, RenV.solid _ (solid_qsV _), _, _, rfl, RenV.solid _ (solid_rrsV _), _, _, rfl, ⟨rfl, rfl⟩, _, _, rfl, RenV.solid _ (solid_rrsV _), rfl⟩⟩, ⟨[.str (rrV s b).1.name, .int .i64 (rrV s b).1.kind, .int .i64 (rrV s b).1.cls, .int .i64 (rrV s b).1.ttl, .str (rrV s b).1.data], rfl, RenL.solid _ (solidsB_ok _ rfl)⟩, trivial⟩⟩
                · show 0 + 1 = j + 1; simp at k2; omega
                · show rrN s (m - (j + 1)) _ _ = _
                  rw [hk']; exact k5
                · show AV.int .i64 (IntKind.i64.wrap ((j : Int) + 1)) = _ ∧ _
                  rw [wr (by omega) (by omega)]; exact ⟨rfl, trivial⟩
              · have hi9 : ¬ j < m := by simpa using h5
                have hie : m - j = 0 := by omega
                rw [hie] at k5
                simp only [rrN] at k5
                rw [← k5] at hf
                simp only at hf
                (conv => whnf)
                refine hx2 _ _ _ (by intro e; cases e) ?_
                (conv => whnf)
                refine hn ⟨2, b, an, [], []⟩ _ _ ⟨show 2 ≤ 3 by decide, k3, k4, (fun h => nomatch h), (fun h => nomatch h), fun _ => ⟨rfl, hf⟩, (fun h => nomatch h)⟩ (show 3 - 2 < 3 - 1 by decide)
                  ⟨[0, 1], rfl, rfl, ⟨⟨congrArg (AV.int .i64) (show IntKind.i64.wrap (((1 : Nat) : Int) + 1) = ((2 : Nat) : Int) by decide), trivial⟩, ⟨_, rfl, _, _, rfl, ⟨rfl, rfl⟩, _, _, rfl, ⟨rfl, rfl⟩, _, _, rfl, ⟨rfl, rfl⟩, rfl⟩, ⟨rfl, trivial⟩, ⟨rfl, trivial⟩, ⟨rfl, rfl⟩, ⟨rfl, rfl⟩, ⟨rfl, trivial⟩, trivial⟩,
                    ⟨⟨[.int .i64 0, .int .i64 0, .emp true, .emp true, .emp true, .emp true], rfl, RenL.solid _ (solidsB_ok _ rfl)⟩, ⟨_, rfl, ⟨_, _, rfl, ⟨rfl, trivial⟩, _, _, rfl, ⟨rfl, trivial⟩, _, _, rfl, RenV.solid _ (solid_qsV _), _, _, rfl, RenV.solid _ (solid_rrsV _), _, _, rfl, ⟨rfl, trivial⟩, _, _, rfl, RenV.solid _ (solid_rrsV _), rfl⟩⟩, trivial⟩⟩
            | cons r l =>
              (conv => whnf)
              refine tst (fun h5 => ?_) (fun h5 => ?_)
              · have hi9 : j < m := by simpa using h5
                obtain ⟨k, hk⟩ : ∃ k, m - j = k + 1 := ⟨m - j - 1, by omega⟩
                have hk' : m - (j + 1) = k := by omega
                rw [hk] at k5
                simp only [rrN] at k5
                (conv => whnf)
                refine obl (by simp only [Bool.and_eq_true, decide_eq_true_eq]; exact ⟨hs, by show b ≤ _; omega⟩) ?_
                (conv => whnf)
                refine tst (fun h6 => ?_) (fun h6 => ?_)
                · have hq : (rrV s b).2.2 ≠ 0 := by simpa using h6
                  rw [if_neg hq] at k5
                  rw [← k5] at hf
                  obtain ⟨r1, r2⟩ := err (rrV s b).2.2 hf.symm
                  (conv => whnf)
                  refine hx2 _ _ _ (by intro e; cases e) ?_
                  (conv => whnf)
                  refine hx _ _ _ (by intro e; cases e) ?_
                  rw [r1, r2]
                  (conv => whnf)
                  (refine ⟨_, _, rfl, ?_, ⟨_, _, rfl, ?_, rfl⟩⟩) <;> (conv => whnf)
                  · (refine ⟨_, _, rfl, ?_, ⟨_, _, rfl, ?_, ⟨_, _, rfl, ?_, ⟨_, _, rfl, ?_, ⟨_, _, rfl, ?_, ⟨_, _, rfl, ?_, rfl⟩⟩⟩⟩⟩⟩) <;> (conv => whnf)
                    all_goals first | rfl | exact ⟨rfl, trivial⟩ | exact ⟨rfl, rfl⟩
                  · exact ⟨rfl, rfl⟩
                have hq : (rrV s b).2.2 = 0 := by simpa using h6
                have hnx := rrV_next hq
                rw [if_pos hq] at k5
                (conv => whnf)
                have tk : List.take ((r :: l).length * 5) (rCs (r :: l)) = rCs (r :: l) := List.take_of_length_le (by rw [rCs_length]; omega)
                refine obl ?_ ?_
                · show (true && Nat.beq 79 79 && Nat.beq 5 5 && Nat.beq 0 0 && ((r :: l).length * 5).beq (List.take ((r :: l).length * 5) (rCs (r :: l))).length && roomy ((r :: l).length + 1) 56) = true
                  rw [tk, rCs_length]
                  simp only [Nat.beq_eq, roomy, Nat.ble_eq, Bool.and_eq_true, true_and, and_true]
                  omega
                (conv => whnf)
                refine hn2 ⟨j + 1, (rrV s b).2.1, r :: l ++ [(rrV s b).1]⟩ _ _ ⟨Nat.succ_le_of_lt hi9, ?_, hnx.1, hnx.2, ?_⟩ (show m - (j + 1) < m - j by omega)
                  ⟨[0, 1, 5], rfl, rfl, ⟨?_, ⟨rfl, trivial⟩, ⟨rfl, trivial⟩, ⟨rfl, trivial⟩, ⟨rfl, rfl⟩, ⟨_, rfl, _, _, rfl, ⟨rfl, rfl⟩, _, _, rfl, ⟨rfl, rfl⟩, _, _, rfl, ⟨rfl, rfl⟩, rfl⟩, ⟨rfl, trivial⟩, ⟨rfl, rfl⟩, ⟨rfl, rfl⟩, ⟨rfl, trivial⟩, trivial⟩, ⟨⟨[.int .i64 0, .int .i64 0, .emp true, .emp true, .emp true, .emp true], rfl, RenL.solid _ (solidsB_ok _ rfl)⟩, ⟨[.int .i64 (headI s), .int .i64 (headF s), qsV qs, rrsV an, .sl 5 5 0 ((r :: l).length + 1), rrsV []], rfl, ?_⟩, ⟨List.take ((r :: l).length * 5) (rCs (r :: l)) ++ [.str (rrV s b).1.name, .int .i64 (rrV s b).1.kind, .int .i64 (rrV s b).1.cls, .int .i64 (rrV s b).1.ttl, .str (rrV s b).1.data], rfl, ?_⟩, trivial⟩⟩
                · show (r :: l ++ [(rrV s b).1]).length = j + 1; rw [List.length_append, k2]; rfl
                · show rrN s (m - (j + 1)) _ _ = _
                  rw [hk']; exact k5
                · show AV.int .i64 (IntKind.i64.wrap ((j : Int) + 1)) = _ ∧ _
                  rw [wr (by omega) (by omega)]; exact ⟨rfl, trivial⟩
                · have eL : AV.sl 5 5 0 ((r :: l).length + 1) = AV.sl 5 5 0 (r :: l ++ [(rrV s b).1]).length := by rw [List.length_append]; rfl
                  rw [eL]
                  exact ⟨_, _, rfl, ⟨rfl, trivial⟩, _, _, rfl, ⟨rfl, trivial⟩, _, _, rfl, RenV.solid _ (solid_qsV _), _, _, rfl, RenV.solid _ (solid_rrsV _), _, _, rfl, ⟨rfl, rfl⟩, _, _, rfl, RenV.solid _ (solid_rrsV _), rfl⟩
                · refine renL_eq (solid_rCs _) ?_
                  rw [tk]
                  simp [rCs, rC]
              · have hi9 : ¬ j < m := by simpa using h5
                have hie : m - j = 0 := by omega
                rw [hie] at k5
                simp only [rrN] at k5
                rw [← k5] at hf
                simp only at hf
                (conv => whnf)
                refine hx2 _ _ _ (by intro e; cases e) ?_
                (conv => whnf)
                refine hn ⟨2, b, an, (r :: l), []⟩ _ _ ⟨show 2 ≤ 3 by decide, k3, k4, (fun h => nomatch h), (fun h => nomatch h), fun _ => ⟨rfl, hf⟩, (fun h => nomatch h)⟩ (show 3 - 2 < 3 - 1 by decide)
                  ⟨[0, 1], rfl, rfl, ⟨⟨congrArg (AV.int .i64) (show IntKind.i64.wrap (((1 : Nat) : Int) + 1) = ((2 : Nat) : Int) by decide), trivial⟩, ⟨_, rfl, _, _, rfl, ⟨rfl, rfl⟩, _, _, rfl, ⟨rfl, rfl⟩, _, _, rfl, ⟨rfl, rfl⟩, rfl⟩, ⟨rfl, trivial⟩, ⟨rfl, trivial⟩, ⟨rfl, rfl⟩, ⟨rfl, rfl⟩, ⟨rfl, trivial⟩, trivial⟩,
                    ⟨⟨[.int .i64 0, .int .i64 0, .emp true, .emp true, .emp true, .emp true], rfl, RenL.solid _ (solidsB_ok _ rfl)⟩, ⟨_, rfl, ⟨_, _, rfl, ⟨rfl, trivial⟩, _, _, rfl, ⟨rfl, trivial⟩, _, _, rfl, RenV.solid _ (solid_qsV _), _, _, rfl, RenV.solid _ (solid_rrsV _), _, _, rfl, ⟨rfl, by simp, by show 0 + (r :: l).length * 5 ≤ (rCs (r :: l)).length; rw [rCs_length]; omega, finRQ_any (solid_rR _) (rR_len _) rfl⟩, _, _, rfl, RenV.solid _ (solid_rrsV _), rfl⟩⟩, trivial⟩⟩
          | 2, i1, j0, j1, j2, j3 =>
            obtain ⟨e3, hf⟩ := j2 rfl
            subst e3
            (conv => whnf)
            have wk : IntKind.i64.wrap (1 + ((2 : Nat) : Int)) = 3 := by decide
            refine obl (by simp only [Bool.and_eq_true, decide_eq_true_eq]; exact ⟨⟨hs, show 0 ≤ IntKind.i64.wrap (1 + ((2 : Nat) : Int)) by decide⟩, show IntKind.i64.wrap (1 + ((2 : Nat) : Int)) ≤ 10 by decide⟩) ?_
            rw [wk]
            (conv => whnf)
            have hb1 := getV_bound s (4 + 2 * 3) 2
            have hc1 : ((cntV s 3 : Nat) : Int) = getV s (4 + 2 * 3) 2 := by unfold cntV; omega
            have hcb1 := cntV_le s 3
            rw [← hc1]
            generalize hm : cntV s 3 = m at *
            unfold fin2 at hf
            rw [hm] at hf
            generalize hrr : rrN s m a [] = rr at hf
            refine loopq (X := D3) (fun x => x.j ≤ m ∧ x.l.length = x.j ∧ 0 ≤ x.a ∧ x.a ≤ s.length ∧ rrN s (m - x.j) x.a x.l = rr) (D3.S s m 2) (D3.H s qs an ns [] 2) (fun x => m - x.j) ?_ ⟨0, a, []⟩ ⟨Nat.zero_le _, rfl, i3, i4, hrr⟩
              ⟨[0, 1], rfl, rfl, ⟨⟨rfl, trivial⟩, ⟨rfl, trivial⟩, ⟨rfl, trivial⟩, ⟨rfl, trivial⟩, ⟨rfl, rfl⟩, ⟨_, rfl, _, _, rfl, ⟨rfl, rfl⟩, _, _, rfl, ⟨rfl, rfl⟩, _, _, rfl, ⟨rfl, rfl⟩, rfl⟩, ⟨rfl, trivial⟩, ⟨rfl, rfl⟩, ⟨rfl, rfl⟩, ⟨rfl, trivial⟩, trivial⟩,
                ⟨⟨[.int .i64 0, .int .i64 0, .emp true, .emp true, .emp true, .emp true], rfl, RenL.solid _ (solidsB_ok _ rfl)⟩, ⟨_, rfl, ⟨_, _, rfl, ⟨rfl, trivial⟩, _, _, rfl, ⟨rfl, trivial⟩, _, _, rfl, RenV.solid _ (solid_qsV _), _, _, rfl, RenV.solid _ (solid_rrsV _), _, _, rfl, RenV.solid _ (solid_rrsV _), _, _, rfl, ⟨rfl, trivial⟩, rfl⟩⟩, trivial⟩⟩
            rintro ⟨j, b, l⟩ ⟨k1, k2, k3, k4, k5⟩ J2 hn2 hx2
            simp only at k1 k2 k3 k4 k5
            cases l with
            | nil =>
              (conv => whnf)
              refine tst (fun h5 => ?_) (fun h5 => ?_)
              · have hi9 : j < m := by simpa using h5
                obtain ⟨k, hk⟩ : ∃ k, m - j = k + 1 := ⟨m - j - 1, by omega⟩
                have hk' : m - (j + 1) = k := by omega
                rw [hk] at k5
                simp only [rrN] at k5
                (conv => whnf)
                refine obl (by simp only [Bool.and_eq_true, decide_eq_true_eq]; exact ⟨hs, by show b ≤ _; omega⟩) ?_
                (conv => whnf)
                refine tst (fun h6 => ?_) (fun h6 => ?_)
                · have hq : (rrV s b).2.2 ≠ 0 := by simpa using h6
                  rw [if_neg hq] at k5
                  rw [← k5] at hf
                  obtain ⟨r1, r2⟩ := err (rrV s b).2.2 hf.symm
                  (conv => whnf)
                  refine hx2 _ _ _ (by intro e; cases e) ?_
                  (conv => whnf)
                  refine hx _ _ _ (by intro e; cases e) ?_
                  rw [r1, r2]
                  (conv => whnf)
                  (refine ⟨_, _, rfl, ?_, ⟨_, _, rfl, ?_, rfl⟩⟩) <;> (conv => whnf)
                  · (refine ⟨_, _, rfl, ?_, ⟨_, _, rfl, ?_, ⟨_, _, rfl, ?_, ⟨_, _, rfl, ?_, ⟨_, _, rfl, ?_, ⟨_, _, rfl, ?_, rfl⟩⟩⟩⟩⟩⟩) <;> (conv => whnf)
                    all_goals first | rfl | exact ⟨rfl, trivial⟩ | exact ⟨rfl, rfl⟩
                  · exact ⟨rfl, rfl⟩
                have hq : (rrV s b).2.2 = 0 := by simpa using h6
                have hnx := rrV_next hq
                rw [if_pos hq] at k5
                (conv => whnf)
                refine hn2 ⟨j + 1, (rrV s b).2.1, [(rrV s b).1]⟩ _ _ ⟨Nat.succ_le_of_lt hi9, ?_, hnx.1, hnx.2, ?_⟩ (show m - (j + 1) < m - j by omega)
                  ⟨[0, 1, 4], rfl, rfl, ⟨?_, ⟨rfl, trivial⟩, ⟨rfl, trivial⟩, ⟨rfl, trivial⟩, ⟨rfl, rfl⟩, ⟨_, rfl, _, _, rfl, ⟨rfl, rfl⟩, _, _, rfl, ⟨rfl, rfl⟩, _, _, rfl, ⟨rfl, rfl⟩, rfl⟩, ⟨rfl, trivial⟩, ⟨rfl, rfl⟩, ⟨rfl, rfl⟩, ⟨rfl, trivial⟩, trivial⟩, ⟨⟨[.int .i64 0, .int .i64 0, .emp true, .emp true, .emp true, .emp true], rfl, RenL.solid _ (solidsB_ok _ rfl)⟩, ⟨[.int .i64 (headI s), .int .i64 (headF s), qsV qs, rrsV an, rrsV ns, .sl 4 5 0 1], rfl, ⟨_, _, rfl, ⟨rfl, trivial⟩, _, _, rfl, ⟨rfl, trivial⟩, _, _, rfl, RenV.solid _ (solid_qsV _), _, _, rfl, RenV.solid _ (solid_rrsV _), _, _, rfl, RenV.solid _ (solid_rrsV _), _, _, rfl, ⟨rfl, rfl⟩, rfl⟩⟩, ⟨[.str (rrV s b).1.name, .int .i64 (rrV s b).1.kind, .int .i64 (rrV s b).1.cls, .int .i64 (rrV s b).1.ttl, .str (rrV s b).1.data], rfl, RenL.solid _ (solidsB_ok _ rfl)⟩, trivial⟩⟩
                · show 0 + 1 = j + 1; simp at k2; omega
                · show rrN s (m - (j + 1)) _ _ = _
                  rw [hk']; exact k5
                · show AV.int .i64 (IntKind.i64.wrap ((j : Int) + 1)) = _ ∧ _
                  rw [wr (by omega) (by omega)]; exact ⟨rfl, trivial⟩
              · have hi9 : ¬ j < m := by simpa using h5
                have hie : m - j = 0 := by omega
                rw [hie] at k5
                simp only [rrN] at k5
                rw [← k5] at hf
                simp only at hf
                (conv => whnf)
                refine hx2 _ _ _ (by intro e; cases e) ?_
                (conv => whnf)
                refine hn ⟨3, b, an, ns, []⟩ _ _ ⟨show 3 ≤ 3 by decide, k3, k4, (fun h => nomatch h), (fun h => nomatch h), (fun h => nomatch h), fun _ => hf⟩ (show 3 - 3 < 3 - 2 by decide)
                  ⟨[0, 1], rfl, rfl, ⟨⟨congrArg (AV.int .i64) (show IntKind.i64.wrap (((2 : Nat) : Int) + 1) = ((3 : Nat) : Int) by decide), trivial⟩, ⟨_, rfl, _, _, rfl, ⟨rfl, rfl⟩, _, _, rfl, ⟨rfl, rfl⟩, _, _, rfl, ⟨rfl, rfl⟩, rfl⟩, ⟨rfl, trivial⟩, ⟨rfl, trivial⟩, ⟨rfl, rfl⟩, ⟨rfl, rfl⟩, ⟨rfl, trivial⟩, trivial⟩,
                    ⟨⟨[.int .i64 0, .int .i64 0, .emp true, .emp true, .emp true, .emp true], rfl, RenL.solid _ (solidsB_ok _ rfl)⟩, ⟨_, rfl, ⟨_, _, rfl, ⟨rfl, trivial⟩, _, _, rfl, ⟨rfl, trivial⟩, _, _, rfl, RenV.solid _ (solid_qsV _), _, _, rfl, RenV.solid _ (solid_rrsV _), _, _, rfl, RenV.solid _ (solid_rrsV _), _, _, rfl, ⟨rfl, trivial⟩, rfl⟩⟩, trivial⟩⟩
            | cons r l =>
              (conv => whnf)
              refine tst (fun h5 => ?_) (fun h5 => ?_)
              · have hi9 : j < m := by simpa using h5
                obtain ⟨k, hk⟩ : ∃ k, m - j = k + 1 := ⟨m - j - 1, by omega⟩
                have hk' : m - (j + 1) = k := by omega
                rw [hk] at k5
                simp only [rrN] at k5
                (conv => whnf)
                refine obl (by simp only [Bool.and_eq_true, decide_eq_true_eq]; exact ⟨hs, by show b ≤ _; omega⟩) ?_
                (conv => whnf)
                refine tst (fun h6 => ?_) (fun h6 => ?_)
                · have hq : (rrV s b).2.2 ≠ 0 := by simpa using h6
                  rw [if_neg hq] at k5
                  rw [← k5] at hf
                  obtain ⟨r1, r2⟩ := err (rrV s b).2.2 hf.symm
                  (conv => whnf)
                  refine hx2 _ _ _ (by intro e; cases e) ?_
                  (conv => whnf)
                  refine hx _ _ _ (by intro e; cases e) ?_
                  rw [r1, r2]
                  (conv => whnf)
                  (refine ⟨_, _, rfl, ?_, ⟨_, _, rfl, ?_, rfl⟩⟩) <;> (conv => whnf)
                  · (refine ⟨_, _, rfl, ?_, ⟨_, _, rfl, ?_, ⟨_, _, rfl, ?_, ⟨_, _, rfl, ?_, ⟨_, _, rfl, ?_, ⟨_, _, rfl, ?_, rfl⟩⟩⟩⟩⟩⟩) <;> (conv => whnf)
                    all_goals first | rfl | exact ⟨rfl, trivial⟩ | exact ⟨rfl, rfl⟩
                  · exact ⟨rfl, rfl⟩
                have hq : (rrV s b).2.2 = 0 := by simpa using h6
                have hnx := rrV_next hq
                rw [if_pos hq] at k5
                (conv => whnf)
                have tk : List.take ((r :: l).length * 5) (rCs (r :: l)) = rCs (r :: l) := List.take_of_length_le (by rw [rCs_length]; omega)
                refine obl ?_ ?_
                · show (true && Nat.beq 79 79 && Nat.beq 5 5 && Nat.beq 0 0 && ((r :: l).length * 5).beq (List.take ((r :: l).length * 5) (rCs (r :: l))).length && roomy ((r :: l).length + 1) 56) = true
                  rw [tk, rCs_length]
                  simp only [Nat.beq_eq, roomy, Nat.ble_eq, Bool.and_eq_true, true_and, and_true]
                  omega
                (conv => whnf)
                refine hn2 ⟨j + 1, (rrV s b).2.1, r :: l ++ [(rrV s b).1]⟩ _ _ ⟨Nat.succ_le_of_lt hi9, ?_, hnx.1, hnx.2, ?_⟩ (show m - (j + 1) < m - j by omega)
                  ⟨[0, 1, 5], rfl, rfl, ⟨?_, ⟨rfl, trivial⟩, ⟨rfl, trivial⟩, ⟨rfl, trivial⟩, ⟨rfl, rfl⟩, ⟨_, rfl, _, _, rfl, ⟨rfl, rfl⟩, _, _, rfl, ⟨rfl, rfl⟩, _, _, rfl, ⟨rfl, rfl⟩, rfl⟩, ⟨rfl, trivial⟩, ⟨rfl, rfl⟩, ⟨rfl, rfl⟩, ⟨rfl, trivial⟩, trivial⟩, ⟨⟨[.int .i64 0, .int .i64 0, .emp true, .emp true, .emp true, .emp true], rfl, RenL.solid _ (solidsB_ok _ rfl)⟩, ⟨[.int .i64 (headI s), .int .i64 (headF s), qsV qs, rrsV an, rrsV ns, .sl 5 5 0 ((r :: l).length + 1)], rfl, ?_⟩, ⟨List.take ((r :: l).length * 5) (rCs (r :: l)) ++ [.str (rrV s b).1.name, .int .i64 (rrV s b).1.kind, .int .i64 (rrV s b).1.cls, .int .i64 (rrV s b).1.ttl, .str (rrV s b).1.data], rfl, ?_⟩, trivial⟩⟩
                · show (r :: l ++ [(rrV s b).1]).length = j + 1; rw [List.length_append, k2]; rfl
                · show rrN s (m - (j + 1)) _ _ = _
                  rw [hk']; exact k5
                · show AV.int .i64 (IntKind.i64.wrap ((j : Int) + 1)) = _ ∧ _
                  rw [wr (by omega) (by omega)]; exact ⟨rfl, trivial⟩
                · have eL : AV.sl 5 5 0 ((r :: l).length + 1) = AV.sl 5 5 0 (r :: l ++ [(rrV s b).1]).length := by rw [List.length_append]; rfl
                  rw [eL]
                  exact ⟨_, _, rfl, ⟨rfl, trivial⟩, _, _, rfl, ⟨rfl, trivial⟩, _, _, rfl, RenV.solid _ (solid_qsV _), _, _, rfl, RenV.solid _ (solid_rrsV _), _, _, rfl, RenV.solid _ (solid_rrsV _), _, _, rfl, ⟨rfl, rfl⟩, rfl⟩
                · refine renL_eq (solid_rCs _) ?_
                  rw [tk]
                  simp [rCs, rC]
              · have hi9 : ¬ j < m := by simpa using h5
                have hie : m - j = 0 := by omega
                rw [hie] at k5
                simp only [rrN] at k5
                rw [← k5] at hf
                simp only at hf
                (conv => whnf)
                refine hx2 _ _ _ (by intro e; cases e) ?_
                (conv => whnf)
                refine hn ⟨3, b, an, ns, (r :: l)⟩ _ _ ⟨show 3 ≤ 3 by decide, k3, k4, (fun h => nomatch h), (fun h => nomatch h), (fun h => nomatch h), fun _ => hf⟩ (show 3 - 3 < 3 - 2 by decide)
                  ⟨[0, 1], rfl, rfl, ⟨⟨congrArg (AV.int .i64) (show IntKind.i64.wrap (((2 : Nat) : Int) + 1) = ((3 : Nat) : Int) by decide), trivial⟩, ⟨_, rfl, _, _, rfl, ⟨rfl, rfl⟩, _, _, rfl, ⟨rfl, rfl⟩, _, _, rfl, ⟨rfl, rfl⟩, rfl⟩, ⟨rfl, trivial⟩, ⟨rfl, trivial⟩, ⟨rfl, rfl⟩, ⟨rfl, rfl⟩, ⟨rfl, trivial⟩, trivial⟩,
                    ⟨⟨[.int .i64 0, .int .i64 0, .emp true, .emp true, .emp true, .emp true], rfl, RenL.solid _ (solidsB_ok _ rfl)⟩, ⟨_, rfl, ⟨_, _, rfl, ⟨rfl, trivial⟩, _, _, rfl, ⟨rfl, trivial⟩, _, _, rfl, RenV.solid _ (solid_qsV _), _, _, rfl, RenV.solid _ (solid_rrsV _), _, _, rfl, RenV.solid _ (solid_rrsV _), _, _, rfl, ⟨rfl, by simp, by show 0 + (r :: l).length * 5 ≤ (rCs (r :: l)).length; rw [rCs_length]; omega, finRQ_any (solid_rR _) (rR_len _) rfl⟩, rfl⟩⟩, trivial⟩⟩
          | 3, i1, j0, j1, j2, j3 =>
            have hf := j3 rfl
            (conv => whnf)
            refine hx _ _ _ (by intro e; cases e) ?_
            (conv => whnf)
            refine tst (fun h5 => ?_) (fun h5 => ?_)
            · have hq : a ≠ s.length := by simpa using h5
              obtain ⟨r1, r2⟩ := err 5 (by rw [← hf]; unfold fin3; rw [if_neg hq])
              rw [r1, r2]
              (conv => whnf)
              (refine ⟨_, _, rfl, ?_, ⟨_, _, rfl, ?_, rfl⟩⟩) <;> (conv => whnf)
              · (refine ⟨_, _, rfl, ?_, ⟨_, _, rfl, ?_, ⟨_, _, rfl, ?_, ⟨_, _, rfl, ?_, ⟨_, _, rfl, ?_, ⟨_, _, rfl, ?_, rfl⟩⟩⟩⟩⟩⟩) <;> (conv => whnf)
                all_goals first | rfl | exact ⟨rfl, trivial⟩ | exact ⟨rfl, rfl⟩
              · exact ⟨rfl, rfl⟩
            · have hq : a = s.length := by simpa using h5
              obtain ⟨r1, r2⟩ := good ⟨headI s, headF s, qs, an, ns, ar⟩ (by rw [← hf]; unfold fin3; rw [if_pos hq])
              rw [r1, r2]
              (conv => whnf)
              (refine ⟨_, _, rfl, ?_, ⟨_, _, rfl, ?_, rfl⟩⟩) <;> (conv => whnf)
              · (refine ⟨_, _, rfl, ?_, ⟨_, _, rfl, ?_, ⟨_, _, rfl, ?_, ⟨_, _, rfl, ?_, ⟨_, _, rfl, ?_, ⟨_, _, rfl, ?_, rfl⟩⟩⟩⟩⟩⟩) <;> (conv => whnf)
                all_goals first | rfl | exact ⟨rfl, trivial⟩ | exact ⟨rfl, rfl⟩ | exact FinQ.solid _ (solid_qsV _) | exact FinQ.solid _ (solid_rrsV _)
              · exact ⟨rfl, rfl⟩
          | n + 4, i1, _, _, _, _ => exact absurd i1 (by omega)
    · show AV.int .i64 (getV s (4 + 2 * 0) 2) = _
      rw [hc0]
  · cases hg
end Go.Abs.R
