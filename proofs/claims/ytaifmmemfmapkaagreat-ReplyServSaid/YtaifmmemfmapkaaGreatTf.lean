import Derived.Test.YtaifmmemfmapkaaGreatTe
namespace Go.Abs.R
open Go.Abs Go.Proofs
set_option maxRecDepth 100000
set_option linter.unusedVariables false
set_option linter.unusedSimpArgs false
def T23 : Tbl := [(102, g102), (67, g67)]
/-- edns.Opt.Record -/
def optT (e v : Int) (d : Bool) : Int := match d with
  | true => orI (orI (shlI e 24) (shlI v 16)) 32768
  | false => orI (shlI e 24) (shlI v 16)
def optV (has : Bool) (s e v : Int) (d : Bool) : Rr × Bool := if has = true ∧ inV s 65535 = true ∧ inV e 127 = true ∧ inV v 255 = true then (⟨[0], 41, s, optT e v d, []⟩, true) else (⟨[], 0, 0, 0, []⟩, false)
def g68 : List AV → Option (Bool × AV)
  | [.agg [.bool has, .int .i64 s, .int .i64 e, .int .i64 v, .bool d]] => some (true, .tup [.agg [.str (optV has s e v d).1.name, .int .i64 (optV has s e v d).1.kind, .int .i64 (optV has s e v d).1.cls, .int .i64 (optV has s e v d).1.ttl, .str (optV has s e v d).1.data], .bool (optV has s e v d).2])
  | _ => none
theorem s68 : Spec (EY T23) Tryz.f68 g68 := by
  intro args v hg
  unfold g68 at hg
  split at hg
  · rename_i has s e v d
    simp only [Option.some.injEq, Prod.mk.injEq, true_and, decide_eq_true_eq, Bool.and_eq_true] at hg
    subst hg
    refine ⟨(by simp [Solids, Solid, Solidss]), ?_⟩
    generalize hr : optV has s e v d = r
    unfold optV at hr
    have fin : ∀ {P : Prop}, (¬ (has = true ∧ inV s 65535 = true ∧ inV e 127 = true ∧ inV v 255 = true)) → ((⟨[], 0, 0, 0, []⟩, false) = r → P) → P := fun h k => k (by rw [if_neg h] at hr; exact hr)
    cases has with
    | false =>
      refine fin (by simp) fun e => ?_
      subst e
      (conv => whnf)
      (refine ⟨_, _, rfl, ?_, ⟨_, _, rfl, ?_, rfl⟩⟩) <;> (conv => whnf)
      · (refine ⟨_, _, rfl, ?_, ⟨_, _, rfl, ?_, ⟨_, _, rfl, ?_, ⟨_, _, rfl, ?_, ⟨_, _, rfl, ?_, rfl⟩⟩⟩⟩⟩) <;> (conv => whnf)
        all_goals exact ⟨rfl, rfl⟩
    | true =>
    (conv => whnf)
    refine tst (fun h2 => ?_) (fun h2 => ?_)
    · have : inV s 65535 = false := by
        have h2a : (!inV s 65535) = true := h2
        simpa using h2a
      refine fin (by simp [this]) fun e => ?_
      subst e
      (conv => whnf)
      (refine ⟨_, _, rfl, ?_, ⟨_, _, rfl, ?_, rfl⟩⟩) <;> (conv => whnf)
      · (refine ⟨_, _, rfl, ?_, ⟨_, _, rfl, ?_, ⟨_, _, rfl, ?_, ⟨_, _, rfl, ?_, ⟨_, _, rfl, ?_, rfl⟩⟩⟩⟩⟩) <;> (conv => whnf)
        all_goals exact ⟨rfl, rfl⟩
    have h2' : inV s 65535 = true := by
      have h2a : (!inV s 65535) = false := h2
      simpa using h2a
    (conv => whnf)
    refine tst (fun h3 => ?_) (fun h3 => ?_)
    · have : inV e 127 = false := by
        have h2a : (!inV e 127) = true := h3
        simpa using h2a
      refine fin (by simp [this]) fun e => ?_
      subst e
      (conv => whnf)
      (refine ⟨_, _, rfl, ?_, ⟨_, _, rfl, ?_, rfl⟩⟩) <;> (conv => whnf)
      · (refine ⟨_, _, rfl, ?_, ⟨_, _, rfl, ?_, ⟨_, _, rfl, ?_, ⟨_, _, rfl, ?_, ⟨_, _, rfl, ?_, rfl⟩⟩⟩⟩⟩) <;> (conv => whnf)
        all_goals exact ⟨rfl, rfl⟩
    have h3' : inV e 127 = true := by
      have h2a : (!inV e 127) = false := h3
      simpa using h2a
    (conv => whnf)
    refine tst (fun h4 => ?_) (fun h4 => ?_)
    · have : inV v 255 = false := by
        have h2a : (!inV v 255) = true := h4
        simpa using h2a
      refine fin (by simp [this]) fun e => ?_
      subst e
      (conv => whnf)
      (refine ⟨_, _, rfl, ?_, ⟨_, _, rfl, ?_, rfl⟩⟩) <;> (conv => whnf)
      · (refine ⟨_, _, rfl, ?_, ⟨_, _, rfl, ?_, ⟨_, _, rfl, ?_, ⟨_, _, rfl, ?_, ⟨_, _, rfl, ?_, rfl⟩⟩⟩⟩⟩) <;> (conv => whnf)
        all_goals exact ⟨rfl, rfl⟩
    have h4' : inV v 255 = true := by
      have h2a : (!inV v 255) = false := h4
      simpa using h2a
    rw [if_pos ⟨rfl, h2', h3', h4'⟩] at hr
    subst hr
    cases d with
    | true =>
      (conv => whnf)
      (refine ⟨_, _, rfl, ?_, ⟨_, _, rfl, ?_, rfl⟩⟩) <;> (conv => whnf)
      · (refine ⟨_, _, rfl, ?_, ⟨_, _, rfl, ?_, ⟨_, _, rfl, ?_, ⟨_, _, rfl, ?_, ⟨_, _, rfl, ?_, rfl⟩⟩⟩⟩⟩) <;> (conv => whnf)
        all_goals exact ⟨rfl, rfl⟩
    | false =>
      (conv => whnf)
      (refine ⟨_, _, rfl, ?_, ⟨_, _, rfl, ?_, rfl⟩⟩) <;> (conv => whnf)
      · (refine ⟨_, _, rfl, ?_, ⟨_, _, rfl, ?_, ⟨_, _, rfl, ?_, ⟨_, _, rfl, ?_, ⟨_, _, rfl, ?_, rfl⟩⟩⟩⟩⟩) <;> (conv => whnf)
        all_goals exact ⟨rfl, rfl⟩
  · cases hg
def T23b : Tbl := [(68, g68), (67, g67)]
/-- reply.Ask.head -/
def quoI (v w : Int) : Int := IntKind.i64.wrap (v.tdiv w)
def headM (id b : Int) (q : Qn) (has d : Bool) (v : Int) : Mg := ⟨id, ansV b v, match q.name with | [] => [] | _ :: _ => [q], [], [], match has with | true => [(optV true 4096 (quoI v 16) 0 d).1] | false => []⟩
def g37 : List AV → Option (Bool × AV)
  | [.agg [.int .i64 id, .int .i64 b, .str nm, .int .i64 k, .int .i64 c, .bool has, .int .i64 s, .int .i64 e, .int .i64 ve, .bool d], .int .i64 v] => some (true, msgV (headM id b ⟨nm, k, c⟩ has d v))
  | _ => none
theorem s37 : Spec (EY T23b) Tryz.f37 g37 := by
  intro args v hg
  unfold g37 at hg
  split at hg
  · rename_i id b nm k c has s e ve d v
    simp only [Option.some.injEq, Prod.mk.injEq, true_and, decide_eq_true_eq, Bool.and_eq_true] at hg
    subst hg
    refine ⟨(by simp [Solids, Solid, Solidss]), ?_⟩
    cases nm with
    | nil =>
      cases has with
      | false =>
        (conv => whnf)
        (refine ⟨_, _, rfl, ?_, ⟨_, _, rfl, ?_, ⟨_, _, rfl, ?_, ⟨_, _, rfl, ?_, ⟨_, _, rfl, ?_, ⟨_, _, rfl, ?_, rfl⟩⟩⟩⟩⟩⟩) <;> (conv => whnf)
        all_goals first | rfl | exact ⟨rfl, trivial⟩ | exact ⟨rfl, rfl⟩ | exact ⟨rfl, rfl, Nat.le_refl 5, finRQ_any (solid_rR _) (rR_len _) rfl⟩ | exact ⟨rfl, rfl, Nat.le_refl 3, finRQ_any (solid_qR _) (qR_len _) rfl⟩
      | true =>
        (conv => whnf)
        (refine ⟨_, _, rfl, ?_, ⟨_, _, rfl, ?_, ⟨_, _, rfl, ?_, ⟨_, _, rfl, ?_, ⟨_, _, rfl, ?_, ⟨_, _, rfl, ?_, rfl⟩⟩⟩⟩⟩⟩) <;> (conv => whnf)
        all_goals first | rfl | exact ⟨rfl, trivial⟩ | exact ⟨rfl, rfl⟩ | exact ⟨rfl, rfl, Nat.le_refl 5, finRQ_any (solid_rR _) (rR_len _) rfl⟩ | exact ⟨rfl, rfl, Nat.le_refl 3, finRQ_any (solid_qR _) (qR_len _) rfl⟩
    | cons a nm =>
      cases has with
      | false =>
        (conv => whnf)
        (refine ⟨_, _, rfl, ?_, ⟨_, _, rfl, ?_, ⟨_, _, rfl, ?_, ⟨_, _, rfl, ?_, ⟨_, _, rfl, ?_, ⟨_, _, rfl, ?_, rfl⟩⟩⟩⟩⟩⟩) <;> (conv => whnf)
        all_goals first | rfl | exact ⟨rfl, trivial⟩ | exact ⟨rfl, rfl⟩ | exact ⟨rfl, rfl, Nat.le_refl 5, finRQ_any (solid_rR _) (rR_len _) rfl⟩ | exact ⟨rfl, rfl, Nat.le_refl 3, finRQ_any (solid_qR _) (qR_len _) rfl⟩
      | true =>
        (conv => whnf)
        (refine ⟨_, _, rfl, ?_, ⟨_, _, rfl, ?_, ⟨_, _, rfl, ?_, ⟨_, _, rfl, ?_, ⟨_, _, rfl, ?_, ⟨_, _, rfl, ?_, rfl⟩⟩⟩⟩⟩⟩) <;> (conv => whnf)
        all_goals first | rfl | exact ⟨rfl, trivial⟩ | exact ⟨rfl, rfl⟩ | exact ⟨rfl, rfl, Nat.le_refl 5, finRQ_any (solid_rR _) (rR_len _) rfl⟩ | exact ⟨rfl, rfl, Nat.le_refl 3, finRQ_any (solid_qR _) (qR_len _) rfl⟩
  · cases hg
end Go.Abs.R
