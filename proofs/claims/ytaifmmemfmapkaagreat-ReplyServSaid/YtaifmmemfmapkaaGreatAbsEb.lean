import Derived.Test.YtaifmmemfmapkaaGreatAbsEa
set_option linter.unusedVariables false
set_option linter.unusedSimpArgs false
namespace Go.Abs
open Go.RowKit

/-! Calls that are run where they stand; what they turn is told. -/
mutual
def avB : AV → AV → Bool
  | .bool a, .bool b => a == b
  | .int k a, .int k' b => decide (k = k') && decide (a = b)
  | .str a, .str b => decide (a = b)
  | .nilp, .nilp | .nilm, .nilm | .nilf, .nilf | .nili, .nili => true
  | .ptr a b, .ptr c d => Nat.beq a c && Nat.beq b d
  | .rp a, .rp b => avsB a b
  | .sl a b c d, .sl a' b' c' d' => Nat.beq a a' && Nat.beq b b' && Nat.beq c c' && Nat.beq d d'
  | .row s a, .row s' b => Nat.beq s s' && avssB a b
  | .emp a, .emp b => a == b
  | .map a, .map b => Nat.beq a b
  | .agg a, .agg b => avsB a b
  | .tup a, .tup b => avsB a b
  | _, _ => false
def avsB : List AV → List AV → Bool
  | [], [] => true
  | a :: x, b :: y => avB a b && avsB x y
  | _, _ => false
def avssB : List (List AV) → List (List AV) → Bool
  | [], [] => true
  | a :: x, b :: y => avsB a b && avssB x y
  | _, _ => false
end
mutual
theorem avB_ok : ∀ (a b : AV), avB a b = true → a = b
  | .bool a, b, h => by cases b <;> simp [avB] at h; rw [h]
  | .int k a, b, h => by cases b <;> simp [avB] at h; obtain ⟨rfl, rfl⟩ := h; rfl
  | .str a, b, h => by cases b <;> simp [avB] at h; rw [h]
  | .nilp, b, h => by cases b <;> simp [avB] at h; rfl
  | .nilm, b, h => by cases b <;> simp [avB] at h; rfl
  | .nilf, b, h => by cases b <;> simp [avB] at h; rfl
  | .nili, b, h => by cases b <;> simp [avB] at h; rfl
  | .ptr _ _, b, h => by cases b <;> simp [avB] at h; obtain ⟨rfl, rfl⟩ := h; rfl
  | .rp a, b, h => by cases b <;> simp [avB] at h; rw [avsB_ok a _ h]
  | .sl _ _ _ _, b, h => by cases b <;> simp [avB] at h; obtain ⟨⟨⟨rfl, rfl⟩, rfl⟩, rfl⟩ := h; rfl
  | .row _ a, b, h => by cases b <;> simp [avB] at h; obtain ⟨rfl, h⟩ := h; rw [avssB_ok a _ h]
  | .emp a, b, h => by cases b <;> simp [avB] at h; rw [h]
  | .map _, b, h => by cases b <;> simp [avB] at h; rw [h]
  | .fn .., b, h => by cases b <;> simp [avB] at h
  | .ifc .., b, h => by cases b <;> simp [avB] at h
  | .agg a, b, h => by cases b <;> simp [avB] at h; rw [avsB_ok a _ h]
  | .tup a, b, h => by cases b <;> simp [avB] at h; rw [avsB_ok a _ h]
theorem avsB_ok : ∀ (a b : List AV), avsB a b = true → a = b
  | [], b, h => by cases b <;> simp [avsB] at h; rfl
  | a :: x, b, h => by
    cases b with
    | nil => simp [avsB] at h
    | cons b y => simp only [avsB, Bool.and_eq_true] at h; rw [avB_ok a b h.1, avsB_ok x y h.2]
theorem avssB_ok : ∀ (a b : List (List AV)), avssB a b = true → a = b
  | [], b, h => by cases b <;> simp [avssB] at h; rfl
  | a :: x, b, h => by
    cases b with
    | nil => simp [avssB] at h
    | cons b y => simp only [avssB, Bool.and_eq_true] at h; rw [avsB_ok a b h.1, avssB_ok x y h.2]
end
def blkB : Blk → Blk → Bool
  | .cells r t cs, .cells r' t' cs' => (r == r') && Nat.beq t t' && avsB cs cs'
  | .dead, .dead => true
  | _, _ => false
theorem blkB_ok {a b : Blk} (h : blkB a b = true) : a = b := by
  cases a <;> cases b <;> simp [blkB] at h
  · obtain ⟨⟨rfl, rfl⟩, h⟩ := h
    rw [avsB_ok _ _ h]
  · rfl
def idxs : Heap → Nat → List Nat
  | [], _ => []
  | _ :: h, i => i :: idxs h (i + 1)
def diffB : Heap → Heap → Nat → List Nat
  | [], h', i => idxs h' i
  | b :: h, h', i => match h' with
    | [] => i :: diffB h [] (i + 1)
    | b' :: h' => cond (blkB b b') (diffB h h' (i + 1)) (i :: diffB h h' (i + 1))
theorem at_cons {b : Blk} {h : Heap} (k : Nat) : Heap.at (b :: h) k = match k with | 0 => b | k + 1 => h.at k := by cases k <;> rfl
theorem idxs_ok : ∀ (h : Heap) (i k : Nat), (i + k) ∉ idxs h i → h.at k = .dead
  | [], _, _, _ => rfl
  | b :: h, i, k, hn => by
    simp only [idxs, List.mem_cons, not_or] at hn
    cases k with
    | zero => exact absurd rfl hn.1
    | succ k => rw [at_cons]; exact idxs_ok h (i + 1) k (by rw [show i + 1 + k = i + (k + 1) by omega]; exact hn.2)
theorem diffB_ok : ∀ (h h' : Heap) (i k : Nat), (i + k) ∉ diffB h h' i → h'.at k = h.at k
  | [], h', i, k, hn => idxs_ok h' i k hn
  | b :: h, [], i, k, hn => by
    simp only [diffB, List.mem_cons, not_or] at hn
    cases k with
    | zero => exact absurd rfl hn.1
    | succ k => exact diffB_ok h [] (i + 1) k (by rw [show i + 1 + k = i + (k + 1) by omega]; exact hn.2)
  | b :: h, b' :: h', i, k, hn => by
    simp only [diffB] at hn
    cases hb : blkB b b' with
    | true =>
      rw [hb] at hn
      simp only [cond_true] at hn
      cases k with
      | zero => rw [at_cons, at_cons]; exact (blkB_ok hb).symm
      | succ k => exact diffB_ok h h' (i + 1) k (by rw [show i + 1 + k = i + (k + 1) by omega]; exact hn)
    | false =>
      rw [hb] at hn
      simp only [cond_false, List.mem_cons, not_or] at hn
      cases k with
      | zero => exact absurd rfl hn.1
      | succ k => exact diffB_ok h h' (i + 1) k (by rw [show i + 1 + k = i + (k + 1) by omega]; exact hn.2)

def runH (E : Env) (N d : Nat) : Contracts := fun f args h => match E.fns f with
  | some fn => match xFn (α := AV × Heap) E (xInl E N d) N fn args h (fun v h' => fH h' fun h' => some (v, h')) with
    | some (v, h') => some ⟨true, v, h', diffB h h' 0⟩
    | none => none
  | none => none
theorem runH_ok {P : Program} {E : Env} (hE : EnvOk P E) (N d : Nat) : CtrOk P (runH E N d) := by
  intro f args h ans hc hok
  unfold runH at hc
  split at hc
  · rename_i fn hf
    split at hc
    · rename_i v h' hx
      simp only [Option.some.injEq] at hc
      subst hc
      obtain ⟨k1, k2⟩ := hE.fns f fn hf
      have hk := xFn_ok (xInl_ok (E := E) (N := N) d) hx (K' := fun v' h'' => v' = v ∧ h'' = h') fun v' h'' he => by
        simp only [fH_eq, Option.some.injEq, Prod.mk.injEq] at he
        exact he
      obtain ⟨h1, h2⟩ := awpFn_sound hE (inl_ok hE d) k1 k2 hk
      exact ⟨h1, fun β hβ => diffB_ok h h' 0 β (by simpa using hβ), fun B ρ own w cargs H hl => h2 B ρ own w cargs H hl⟩
    · cases hc
  · cases hc
def butP (q : FuncId → Bool) (C : FuncId → List AV → Option (Bool × AV)) : FuncId → List AV → Option (Bool × AV) := fun f args => cond (q f) none (C f args)
theorem butP_ok {P : Program} {q : FuncId → Bool} {C : FuncId → List AV → Option (Bool × AV)} (hC : CpOk P C) : CpOk P (butP q C) := by
  intro f args v hc
  unfold butP at hc
  cases hq : q f with
  | true => rw [hq] at hc; cases hc
  | false => rw [hq] at hc; exact hC f args v hc
end Go.Abs
