import Derived.Test.YtaifmmemfmapkaaGreatTf
namespace Go.Abs.R
open Go.Abs Go.Proofs
set_option maxRecDepth 100000
set_option linter.unusedVariables false
set_option linter.unusedSimpArgs false
def qsOf : AV → List Qn
  | .row 3 ys => ys.map qOf
  | _ => []
def qsOk : AV → Bool
  | .emp true => true
  | .row 3 ys => ys.all isQn && decide (ys.length ≤ 1099511627776) && !ys.isEmpty
  | _ => false
def rrsOk2 : AV → Bool
  | .emp true => true
  | .row 5 ys => ys.all isRr && decide (ys.length ≤ 1099511627776) && (ys.map rOf).all okR && !ys.isEmpty
  | _ => false
theorem map_rOf (l : List Rr) : (l.map rC).map rOf = l := by
  rw [List.map_map]; exact (List.map_congr_left (fun r _ => rfl)).trans (List.map_id l)
theorem map_qOf (l : List Qn) : (l.map qC).map qOf = l := by
  rw [List.map_map]; exact (List.map_congr_left (fun r _ => rfl)).trans (List.map_id l)
theorem all_isRr (l : List Rr) : (l.map rC).all isRr = true := by
  rw [List.all_map]; exact List.all_eq_true.2 fun r _ => rfl
theorem all_isQn (l : List Qn) : (l.map qC).all isQn = true := by
  rw [List.all_map]; exact List.all_eq_true.2 fun r _ => rfl
theorem rrs_of {a : AV} (h : rrsOk2 a = true) : ∃ l, a = rrsV l ∧ rrsOf a = l ∧ l.length ≤ 1099511627776 ∧ l.all okR = true := by
  unfold rrsOk2 at h
  split at h
  · exact ⟨[], rfl, rfl, by simp, rfl⟩
  · rename_i ys
    simp only [Bool.and_eq_true, decide_eq_true_eq] at h
    refine ⟨ys.map rOf, ?_, rfl, by rw [List.length_map]; exact h.1.1.2, h.1.2⟩
    have hy := rR_of h.1.1.1
    cases ys with
    | nil => simp at h
    | cons y ys => show _ = AV.row 5 ((rOf y :: ys.map rOf).map rC); rw [← List.map_cons, ← hy]
  · cases h
theorem qs_of {a : AV} (h : qsOk a = true) : ∃ l, a = qsV l ∧ qsOf a = l ∧ l.length ≤ 1099511627776 := by
  unfold qsOk at h
  split at h
  · exact ⟨[], rfl, rfl, by simp⟩
  · rename_i ys
    simp only [Bool.and_eq_true, decide_eq_true_eq] at h
    refine ⟨ys.map qOf, ?_, rfl, by rw [List.length_map]; exact h.1.2⟩
    have hy := qR_of h.1.1
    cases ys with
    | nil => simp at h
    | cons y ys => show _ = AV.row 3 ((qOf y :: ys.map qOf).map qC); rw [← List.map_cons, ← hy]
  · cases h
theorem rrsOk2_V {l : List Rr} (h1 : l.length ≤ 1099511627776) (h2 : l.all okR = true) : rrsOk2 (rrsV l) = true ∧ rrsOf (rrsV l) = l := by
  cases l with
  | nil => exact ⟨rfl, rfl⟩
  | cons r l =>
    refine ⟨?_, map_rOf (r :: l)⟩
    show ((List.map rC (r :: l)).all isRr && decide ((List.map rC (r :: l)).length ≤ 1099511627776) && ((List.map rC (r :: l)).map rOf).all okR && true) = true
    rw [map_rOf, all_isRr, List.length_map, h2, decide_eq_true h1]; rfl
theorem qsOk_V {l : List Qn} (h1 : l.length ≤ 1099511627776) : qsOk (qsV l) = true ∧ qsOf (qsV l) = l := by
  cases l with
  | nil => exact ⟨rfl, rfl⟩
  | cons r l =>
    refine ⟨?_, map_qOf (r :: l)⟩
    show ((List.map qC (r :: l)).all isQn && decide ((List.map qC (r :: l)).length ≤ 1099511627776) && true) = true
    rw [all_isQn, List.length_map, decide_eq_true h1]; rfl
theorem rrsV_cs (l : List Rr) : (l = [] ∧ rrsV l = .emp true) ∨ ∃ ys, rrsV l = .row 5 ys ∧ ys = l.map rC ∧ l ≠ [] := by
  cases l with
  | nil => exact .inl ⟨rfl, rfl⟩
  | cons r l => exact .inr ⟨_, rfl, rfl, by simp⟩
theorem qsV_cs (l : List Qn) : (l = [] ∧ qsV l = .emp true) ∨ ∃ ys, qsV l = .row 3 ys ∧ ys = l.map qC ∧ l ≠ [] := by
  cases l with
  | nil => exact .inl ⟨rfl, rfl⟩
  | cons r l => exact .inr ⟨_, rfl, rfl, by simp⟩
def secB (l : List Rr) : Bool := inV (l.length : Int) 65535 && !l.any badR
/-- msg.Check -/
def chkM (m : Mg) : Bool := secB m.an && secB m.ns && secB m.ar && inV m.id 65535 && inV m.bits 65535 && inV (m.qs.length : Int) 65535 && !m.qs.any badQ
def T24 : Tbl := [(107, g107), (101, g101r), (111, g111)]
def g69 : List AV → Option (Bool × AV)
  | [.agg [.int .i64 id, .int .i64 b, q, a, n, r]] => some (qsOk q && rrsOk2 a && rrsOk2 n && rrsOk2 r, .bool (chkM ⟨id, b, qsOf q, rrsOf a, rrsOf n, rrsOf r⟩))
  | _ => none
theorem s69 : Spec (EY T24) Tryz.f69 g69 := by
  intro args v hg
  unfold g69 at hg
  split at hg
  · rename_i id b q a n r
    simp only [Option.some.injEq, Prod.mk.injEq, true_and, decide_eq_true_eq, Bool.and_eq_true] at hg
    obtain ⟨hc, rfl⟩ := hg
    have hac := hc
    obtain ⟨⟨⟨hq, ha⟩, hn⟩, hr⟩ := hc
    obtain ⟨lq, rfl, eq, bq⟩ := qs_of hq
    obtain ⟨la, rfl, ea, ba, ka⟩ := rrs_of ha
    obtain ⟨ln, rfl, en, bn, kn⟩ := rrs_of hn
    obtain ⟨lr, rfl, er, br, kr⟩ := rrs_of hr
    rw [eq, ea, en, er]
    refine ⟨⟨⟨trivial, trivial, solid_qsV _, solid_rrsV _, solid_rrsV _, solid_rrsV _, trivial⟩, trivial⟩, ?_⟩
    unfold chkM
    (conv => whnf)
    refine loopq (X := Nat) (fun i => i ≤ 3 ∧ (1 ≤ i → secB la = true) ∧ (2 ≤ i → secB ln = true) ∧ (3 ≤ i → secB lr = true)) (fun i => [(7, .int .i64 i), (6, .agg [.ptr 0 3, .ptr 0 4, .ptr 0 5]), (1, .ptr 0 0)]) (fun i => [.cells false 25 [.int .i64 id, .int .i64 b, qsV lq, rrsV la, rrsV ln, rrsV lr]]) (fun i => 3 - i) ?_ 0 ⟨by omega, by omega, by omega, by omega⟩
      ⟨[0], rfl, rfl, ⟨⟨rfl, trivial⟩, ⟨_, rfl, _, _, rfl, ⟨rfl, rfl⟩, _, _, rfl, ⟨rfl, rfl⟩, _, _, rfl, ⟨rfl, rfl⟩, rfl⟩, ⟨rfl, rfl⟩, trivial⟩, ⟨⟨_, rfl, RenL.solid _ ⟨trivial, trivial, solid_qsV _, solid_rrsV _, solid_rrsV _, solid_rrsV _, trivial⟩⟩, trivial⟩⟩
    intro i ⟨hi, j1, j2, j3⟩ J hnx hx
    match i, hi, j1, j2, j3 with
    | 0, _, j1, j2, j3 =>
      clear er en ea hr hn hac
      have hv : rrsV la = rrsV la := rfl
      have sv : Solid (rrsV la) := solid_rrsV _
      rcases rrsV_cs la with ⟨e0, e1⟩ | ⟨ys, e1, e2, e3⟩
      · have hs : secB la = true := by rw [e0]; rfl
        rw [e1] at hnx sv ⊢
        (conv => whnf)
        refine hnx 1 _ _ ⟨by omega, fun _ => hs, by omega, by omega⟩ (by omega) ⟨[0], rfl, rfl, ⟨⟨rfl, trivial⟩, ⟨_, rfl, _, _, rfl, ⟨rfl, rfl⟩, _, _, rfl, ⟨rfl, rfl⟩, _, _, rfl, ⟨rfl, rfl⟩, rfl⟩, ⟨rfl, rfl⟩, trivial⟩, ⟨⟨_, rfl, RenL.solid _ ⟨trivial, trivial, solid_qsV _, sv, solid_rrsV _, solid_rrsV _, trivial⟩⟩, trivial⟩⟩
      · have hb : ((ys.all isRr && decide (ys.length ≤ 1099511627776) && (ys.map rOf).all okR)) = true := by
          rw [e2]; simp only [all_isRr, map_rOf, List.length_map, Bool.true_and, Bool.and_eq_true, decide_eq_true_eq]; exact ⟨ba, ka⟩
        have el : ys.length = (la).length := by rw [e2, List.length_map]
        have em : ys.map rOf = la := by rw [e2, map_rOf]
        rw [e1] at hnx sv ⊢
        clear e1 e2
        (conv => whnf)
        refine tst (fun h1 => ?_) (fun h1 => ?_)
        · have h2 : secB la = false := by
            have : inV (ys.length : Int) 65535 = false := by
              have h1a : (!inV (ys.length : Int) 65535) = true := h1
              simpa using h1a
            unfold secB; rw [← el, this]; rfl
          (conv => whnf)
          refine hx _ _ _ (by intro e; cases e) ?_
          (conv => whnf)
          simp [h2]
        have h1' : inV (ys.length : Int) 65535 = true := by
          have h1a : (!inV (ys.length : Int) 65535) = false := h1
          simpa using h1a
        (conv => whnf)
        refine obl hb ?_
        (conv => whnf)
        refine tst (fun h2 => ?_) (fun h2 => ?_)
        · have h2 : secB la = false := by
            have h2a : (ys.map rOf).any badR = true := h2
            rw [em] at h2a
            unfold secB; rw [h2a]; simp
          (conv => whnf)
          refine hx _ _ _ (by intro e; cases e) ?_
          (conv => whnf)
          simp [h2]
        · have hs : secB la = true := by
            have h2a : (ys.map rOf).any badR = false := h2
            rw [em] at h2a
            unfold secB; rw [h2a, ← el, h1']; rfl
          (conv => whnf)
          refine hnx 1 _ _ ⟨by omega, fun _ => hs, by omega, by omega⟩ (by omega) ⟨[0], rfl, rfl, ⟨⟨rfl, trivial⟩, ⟨_, rfl, _, _, rfl, ⟨rfl, rfl⟩, _, _, rfl, ⟨rfl, rfl⟩, _, _, rfl, ⟨rfl, rfl⟩, rfl⟩, ⟨rfl, rfl⟩, trivial⟩, ⟨⟨_, rfl, RenL.solid _ ⟨trivial, trivial, solid_qsV _, sv, solid_rrsV _, solid_rrsV _, trivial⟩⟩, trivial⟩⟩
    | 1, _, j1, j2, j3 =>
      clear er en ea hr hn hac
      have hv : rrsV ln = rrsV ln := rfl
      have sv : Solid (rrsV ln) := solid_rrsV _
      rcases rrsV_cs ln with ⟨e0, e1⟩ | ⟨ys, e1, e2, e3⟩
      · have hs : secB ln = true := by rw [e0]; rfl
        rw [e1] at hnx sv ⊢
        (conv => whnf)
        refine hnx 2 _ _ ⟨by omega, fun _ => j1 (by omega), fun _ => hs, by omega⟩ (by omega) ⟨[0], rfl, rfl, ⟨⟨rfl, trivial⟩, ⟨_, rfl, _, _, rfl, ⟨rfl, rfl⟩, _, _, rfl, ⟨rfl, rfl⟩, _, _, rfl, ⟨rfl, rfl⟩, rfl⟩, ⟨rfl, rfl⟩, trivial⟩, ⟨⟨_, rfl, RenL.solid _ ⟨trivial, trivial, solid_qsV _, solid_rrsV _, sv, solid_rrsV _, trivial⟩⟩, trivial⟩⟩
      · have hb : ((ys.all isRr && decide (ys.length ≤ 1099511627776) && (ys.map rOf).all okR)) = true := by
          rw [e2]; simp only [all_isRr, map_rOf, List.length_map, Bool.true_and, Bool.and_eq_true, decide_eq_true_eq]; exact ⟨bn, kn⟩
        have el : ys.length = (ln).length := by rw [e2, List.length_map]
        have em : ys.map rOf = ln := by rw [e2, map_rOf]
        rw [e1] at hnx sv ⊢
        clear e1 e2
        (conv => whnf)
        refine tst (fun h1 => ?_) (fun h1 => ?_)
        · have h2 : secB ln = false := by
            have : inV (ys.length : Int) 65535 = false := by
              have h1a : (!inV (ys.length : Int) 65535) = true := h1
              simpa using h1a
            unfold secB; rw [← el, this]; rfl
          (conv => whnf)
          refine hx _ _ _ (by intro e; cases e) ?_
          (conv => whnf)
          simp [h2]
        have h1' : inV (ys.length : Int) 65535 = true := by
          have h1a : (!inV (ys.length : Int) 65535) = false := h1
          simpa using h1a
        (conv => whnf)
        refine obl hb ?_
        (conv => whnf)
        refine tst (fun h2 => ?_) (fun h2 => ?_)
        · have h2 : secB ln = false := by
            have h2a : (ys.map rOf).any badR = true := h2
            rw [em] at h2a
            unfold secB; rw [h2a]; simp
          (conv => whnf)
          refine hx _ _ _ (by intro e; cases e) ?_
          (conv => whnf)
          simp [h2]
        · have hs : secB ln = true := by
            have h2a : (ys.map rOf).any badR = false := h2
            rw [em] at h2a
            unfold secB; rw [h2a, ← el, h1']; rfl
          (conv => whnf)
          refine hnx 2 _ _ ⟨by omega, fun _ => j1 (by omega), fun _ => hs, by omega⟩ (by omega) ⟨[0], rfl, rfl, ⟨⟨rfl, trivial⟩, ⟨_, rfl, _, _, rfl, ⟨rfl, rfl⟩, _, _, rfl, ⟨rfl, rfl⟩, _, _, rfl, ⟨rfl, rfl⟩, rfl⟩, ⟨rfl, rfl⟩, trivial⟩, ⟨⟨_, rfl, RenL.solid _ ⟨trivial, trivial, solid_qsV _, solid_rrsV _, sv, solid_rrsV _, trivial⟩⟩, trivial⟩⟩
    | 2, _, j1, j2, j3 =>
      clear er en ea hr hn hac
      have hv : rrsV lr = rrsV lr := rfl
      have sv : Solid (rrsV lr) := solid_rrsV _
      rcases rrsV_cs lr with ⟨e0, e1⟩ | ⟨ys, e1, e2, e3⟩
      · have hs : secB lr = true := by rw [e0]; rfl
        rw [e1] at hnx sv ⊢
        (conv => whnf)
        refine hnx 3 _ _ ⟨by omega, fun _ => j1 (by omega), fun _ => j2 (by omega), fun _ => hs⟩ (by omega) ⟨[0], rfl, rfl, ⟨⟨rfl, trivial⟩, ⟨_, rfl, _, _, rfl, ⟨rfl, rfl⟩, _, _, rfl, ⟨rfl, rfl⟩, _, _, rfl, ⟨rfl, rfl⟩, rfl⟩, ⟨rfl, rfl⟩, trivial⟩, ⟨⟨_, rfl, RenL.solid _ ⟨trivial, trivial, solid_qsV _, solid_rrsV _, solid_rrsV _, sv, trivial⟩⟩, trivial⟩⟩
      · have hb : ((ys.all isRr && decide (ys.length ≤ 1099511627776) && (ys.map rOf).all okR)) = true := by
          rw [e2]; simp only [all_isRr, map_rOf, List.length_map, Bool.true_and, Bool.and_eq_true, decide_eq_true_eq]; exact ⟨br, kr⟩
        have el : ys.length = (lr).length := by rw [e2, List.length_map]
        have em : ys.map rOf = lr := by rw [e2, map_rOf]
        rw [e1] at hnx sv ⊢
        clear e1 e2
        (conv => whnf)
        refine tst (fun h1 => ?_) (fun h1 => ?_)
        · have h2 : secB lr = false := by
            have : inV (ys.length : Int) 65535 = false := by
              have h1a : (!inV (ys.length : Int) 65535) = true := h1
              simpa using h1a
            unfold secB; rw [← el, this]; rfl
          (conv => whnf)
          refine hx _ _ _ (by intro e; cases e) ?_
          (conv => whnf)
          simp [h2]
        have h1' : inV (ys.length : Int) 65535 = true := by
          have h1a : (!inV (ys.length : Int) 65535) = false := h1
          simpa using h1a
        (conv => whnf)
        refine obl hb ?_
        (conv => whnf)
        refine tst (fun h2 => ?_) (fun h2 => ?_)
        · have h2 : secB lr = false := by
            have h2a : (ys.map rOf).any badR = true := h2
            rw [em] at h2a
            unfold secB; rw [h2a]; simp
          (conv => whnf)
          refine hx _ _ _ (by intro e; cases e) ?_
          (conv => whnf)
          simp [h2]
        · have hs : secB lr = true := by
            have h2a : (ys.map rOf).any badR = false := h2
            rw [em] at h2a
            unfold secB; rw [h2a, ← el, h1']; rfl
          (conv => whnf)
          refine hnx 3 _ _ ⟨by omega, fun _ => j1 (by omega), fun _ => j2 (by omega), fun _ => hs⟩ (by omega) ⟨[0], rfl, rfl, ⟨⟨rfl, trivial⟩, ⟨_, rfl, _, _, rfl, ⟨rfl, rfl⟩, _, _, rfl, ⟨rfl, rfl⟩, _, _, rfl, ⟨rfl, rfl⟩, rfl⟩, ⟨rfl, rfl⟩, trivial⟩, ⟨⟨_, rfl, RenL.solid _ ⟨trivial, trivial, solid_qsV _, solid_rrsV _, solid_rrsV _, sv, trivial⟩⟩, trivial⟩⟩
    | 3, _, j1, j2, j3 =>
      have k1 := j1 (by omega)
      have k2 := j2 (by omega)
      have k3 := j3 (by omega)
      clear er en ea hr hn hac hnx
      (conv => whnf)
      refine hx _ _ _ (by intro e; cases e) ?_
      rw [k1, k2, k3]
      have sv : Solid (qsV lq) := solid_qsV _
      simp only [Bool.true_and]
      rcases qsV_cs lq with ⟨e0, e1⟩ | ⟨ys, e1, e2, e3⟩
      · subst e0
        (conv => whnf)
        refine tst (fun h1 => ?_) (fun h1 => ?_)
        · have h1' : inV id 65535 = true := h1
          rw [h1']
          (conv => whnf)
          refine tst (fun h2 => ?_) (fun h2 => ?_)
          · have h2' : inV b 65535 = true := h2
            rw [h2']
            (conv => whnf)
            rfl
          · have h2' : inV b 65535 = false := h2
            rw [h2']
            (conv => whnf)
            rfl
        · have h1' : inV id 65535 = false := h1
          rw [h1']
          (conv => whnf)
          rfl
      · have hb : ((ys.all isQn && decide (ys.length ≤ 1099511627776) && (ys.map qOf).all okQ)) = true := by
          rw [e2]; simp only [all_isQn, map_qOf, List.length_map, Bool.true_and, Bool.and_eq_true, decide_eq_true_eq]; exact ⟨bq, List.all_eq_true.2 fun _ _ => rfl⟩
        have el : ys.length = lq.length := by rw [e2, List.length_map]
        have em : ys.map qOf = lq := by rw [e2, map_qOf]
        rw [e1]
        rw [← el]
        clear e1 e2
        (conv => whnf)
        refine tst (fun h1 => ?_) (fun h1 => ?_)
        · have h1' : inV id 65535 = true := h1
          rw [h1']
          (conv => whnf)
          refine tst (fun h2 => ?_) (fun h2 => ?_)
          · have h2' : inV b 65535 = true := h2
            rw [h2']
            (conv => whnf)
            refine tst (fun h3 => ?_) (fun h3 => ?_)
            · have h3' : inV (ys.length : Int) 65535 = true := h3
              rw [h3']
              (conv => whnf)
              refine obl hb ?_
              (conv => whnf)
              rw [em]; rfl
            · have h3' : inV (ys.length : Int) 65535 = false := h3
              rw [h3']
              (conv => whnf)
              rfl
          · have h2' : inV b 65535 = false := h2
            rw [h2']
            (conv => whnf)
            rfl
        · have h1' : inV id 65535 = false := h1
          rw [h1']
          (conv => whnf)
          rfl
  · cases hg
end Go.Abs.R
