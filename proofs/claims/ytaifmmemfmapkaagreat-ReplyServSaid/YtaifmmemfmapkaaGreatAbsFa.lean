import Derived.Test.YtaifmmemfmapkaaGreatAbsEc
import Derived.Test.YtaifmmemfmapkaaGreatAbsF
set_option linter.unusedVariables false
set_option linter.unusedSimpArgs false
namespace Go.Abs
open Go.RowKit

/-! Loops with states that are drawn anew each round: what is no more needed is let go, and the blocks are named anew. -/
mutual
/-- A value under the new names (the first) that stands for what the second stood for. -/
def RenV (σ : Nat → Nat) (L : Nat) (F : AV → AV → Prop) : AV → AV → Prop
  | .any, _ => True
  | .ptr β o, b => Nat.blt β L = true ∧ b = .ptr (σ β) o
  | .sl β sz o n, b => Nat.blt β L = true ∧ b = .sl (σ β) sz o n
  | .map β, b => Nat.blt β L = true ∧ b = .map (σ β)
  | .fn f a c, b => ∃ a' c', b = .fn f a' c' ∧ RenL σ L F a a' ∧ RenL σ L F c c'
  | .agg cs, b => ∃ cs', b = .agg cs' ∧ RenL σ L F cs cs'
  | .tup cs, b => ∃ cs', b = .tup cs' ∧ RenL σ L F cs cs'
  | .ifc t x, b => ∃ y, b = .ifc t y ∧ RenV σ L F x y
  | .row sz xs, b => match b with
    | .sl β z o n => F (.row sz xs) (.sl β z o n)
    | b => b = .row sz xs ∧ Solid (.row sz xs)
  | a, b => b = a ∧ Solid a
def RenL (σ : Nat → Nat) (L : Nat) (F : AV → AV → Prop) : List AV → List AV → Prop
  | [], bs => bs = []
  | a :: as, bs => ∃ b r, bs = b :: r ∧ RenV σ L F a b ∧ RenL σ L F as r
end

mutual
theorem RenV.solid {σ : Nat → Nat} {L : Nat} {F : AV → AV → Prop} : ∀ (a : AV), Solid a → RenV σ L F a a
  | .any, _ => by unfold RenV; trivial
  | .ptr _ _, h | .sl _ _ _ _, h | .map _, h => by unfold Solid at h; exact h.elim
  | .fn f a c, h => by unfold Solid at h; unfold RenV; exact ⟨a, c, rfl, RenL.solid a h.1, RenL.solid c h.2⟩
  | .agg cs, h => by unfold Solid at h; unfold RenV; exact ⟨cs, rfl, RenL.solid cs h⟩
  | .tup cs, h => by unfold Solid at h; unfold RenV; exact ⟨cs, rfl, RenL.solid cs h⟩
  | .ifc t x, h => by unfold Solid at h; unfold RenV; exact ⟨x, rfl, RenV.solid x h⟩
  | .bool _, h | .int _ _, h | .str _, h | .nilp, h | .nilm, h | .nilf, h | .nili, h | .rp _, h | .row _ _, h | .emp _, h => by unfold RenV; exact ⟨rfl, h⟩
theorem RenL.solid {σ : Nat → Nat} {L : Nat} {F : AV → AV → Prop} : ∀ (l : List AV), Solids l → RenL σ L F l l
  | [], _ => by unfold RenL; rfl
  | a :: as, h => by unfold Solids at h; unfold RenL; exact ⟨a, as, rfl, RenV.solid a h.1, RenL.solid as h.2⟩
end

section
variable {ρ ρ' : Nat → Option Nat} {own own' : Nat → Prop} {w : World} {σ : Nat → Nat} {L : Nat} {F : AV → AV → Prop}
mutual
theorem RenV.vr (hρ : ∀ β, Nat.blt β L = true → ρ' β = ρ (σ β)) (ho : ∀ b, own' b → own b) (hF : ∀ a b v, F a b → VR ρ own w b v → VR ρ' own' w a v) : ∀ (a b : AV) (v : Value), RenV σ L F a b → VR ρ own w b v → VR ρ' own' w a v
  | .any, _, _, _, _ => by unfold VR; trivial
  | .ptr β o, _, _, h, hv => by
    unfold RenV at h
    obtain ⟨h1, rfl⟩ := h
    unfold VR at hv ⊢
    rw [hρ β h1]
    exact hv
  | .sl β sz o n, _, _, h, hv => by
    unfold RenV at h
    obtain ⟨h1, rfl⟩ := h
    unfold VR at hv ⊢
    rw [hρ β h1]
    exact hv
  | .map β, _, _, h, hv => by
    unfold RenV at h
    obtain ⟨h1, rfl⟩ := h
    unfold VR at hv ⊢
    rw [hρ β h1]
    exact hv
  | .fn f a c, _, _, h, hv => by
    unfold RenV at h
    obtain ⟨a', c', rfl, h1, h2⟩ := h
    unfold VR at hv ⊢
    obtain ⟨x, y, e, k1, k2⟩ := hv
    exact ⟨x, y, e, RenL.lr hρ ho hF _ _ _ h1 k1, RenL.lr hρ ho hF _ _ _ h2 k2⟩
  | .agg cs, _, _, h, hv => by
    unfold RenV at h
    obtain ⟨cs', rfl, h1⟩ := h
    unfold VR at hv ⊢
    obtain ⟨c, e, k1, k2⟩ := hv
    exact ⟨c, e, RenL.lr hρ ho hF _ _ _ h1 k1, k2⟩
  | .tup cs, _, _, h, hv => by
    unfold RenV at h
    obtain ⟨cs', rfl, h1⟩ := h
    unfold VR at hv ⊢
    obtain ⟨c, e, k1⟩ := hv
    exact ⟨c, e, RenL.lr hρ ho hF _ _ _ h1 k1⟩
  | .ifc t x, _, _, h, hv => by
    unfold RenV at h
    obtain ⟨y, rfl, h1⟩ := h
    unfold VR at hv ⊢
    obtain ⟨z, e, k1⟩ := hv
    exact ⟨z, e, RenV.vr hρ ho hF _ _ _ h1 k1⟩
  | .bool _, _, _, h, hv | .int _ _, _, _, h, hv | .str _, _, _, h, hv | .nilp, _, _, h, hv | .nilm, _, _, h, hv | .nilf, _, _, h, hv | .nili, _, _, h, hv | .rp _, _, _, h, hv | .emp _, _, _, h, hv => by
    unfold RenV at h
    obtain ⟨rfl, hs⟩ := h
    exact VR.solid ho _ _ hs hv
  | .row sz xs, b, v, h, hv => by
    unfold RenV at h
    split at h
    · exact hF _ _ _ h hv
    · obtain ⟨rfl, hs⟩ := h
      exact VR.solid ho _ _ hs hv
theorem RenL.lr (hρ : ∀ β, Nat.blt β L = true → ρ' β = ρ (σ β)) (ho : ∀ b, own' b → own b) (hF : ∀ a b v, F a b → VR ρ own w b v → VR ρ' own' w a v) : ∀ (as bs : List AV) (vs : List Value), RenL σ L F as bs → LR ρ own w bs vs → LR ρ' own' w as vs
  | [], bs, vs, h, hv => by
    unfold RenL at h
    subst h
    unfold LR at hv ⊢
    exact hv
  | a :: as, bs, vs, h, hv => by
    unfold RenL at h
    obtain ⟨b, r, rfl, h1, h2⟩ := h
    unfold LR at hv ⊢
    obtain ⟨v, r', e, k1, k2⟩ := hv
    exact ⟨v, r', e, RenV.vr hρ ho hF _ _ _ h1 k1, RenL.lr hρ ho hF _ _ _ h2 k2⟩
end
theorem RenL.get : ∀ {as bs : List AV}, RenL σ L F as bs → ∀ {i : Nat} {a : AV}, as[i]? = some a → ∃ b, bs[i]? = some b ∧ RenV σ L F a b
  | [], bs, h, i, a, hi => by simp at hi
  | x :: as, bs, h, i, a, hi => by
    unfold RenL at h
    obtain ⟨b, r, rfl, h1, h2⟩ := h
    cases i with
    | zero => simp at hi; subst hi; exact ⟨b, rfl, h1⟩
    | succ i => simp at hi; simpa using RenL.get h2 hi
theorem RenL.length : ∀ {as bs : List AV}, RenL σ L F as bs → as.length = bs.length
  | [], bs, h => by unfold RenL at h; subst h; rfl
  | x :: as, bs, h => by
    unfold RenL at h
    obtain ⟨b, r, rfl, h1, h2⟩ := h
    simp [RenL.length h2]
end

/-- A block under the new names. -/
def RenB (σ : Nat → Nat) (L : Nat) (F : AV → AV → Prop) : Blk → Blk → Prop
  | .dead, _ => True
  | .cells ro t cs, b => ∃ cs', b = .cells ro t cs' ∧ RenL σ L F cs cs'
  | .map k e es, b => b = .map k e es ∧ ∀ p ∈ es, Solid p.1 ∧ Solid p.2

/-- A state's slots, written out. -/
def slots : List (Nat × AV) → Nat → AV
  | [], _ => .any
  | (d, v) :: r, i => bif Nat.beq i d then v else slots r i
def SlotsOk (σ : Nat → Nat) (L : Nat) (F : AV → AV → Prop) (t : Nat → AV) : List (Nat × AV) → Prop
  | [] => True
  | (d, v) :: r => RenV σ L F v (t d) ∧ SlotsOk σ L F t r
theorem slotsOk_get {σ : Nat → Nat} {L : Nat} {F : AV → AV → Prop} {t : Nat → AV} : ∀ {l : List (Nat × AV)}, SlotsOk σ L F t l → ∀ i, RenV σ L F (slots l i) (t i)
  | [], _, i => by unfold slots RenV; trivial
  | (d, v) :: r, h, i => by
    unfold SlotsOk at h
    unfold slots
    cases hb : Nat.beq i d with
    | true =>
      have := Nat.eq_of_beq_eq_true hb
      subst this
      exact h.1
    | false => exact slotsOk_get h.2 i
def BlksOk (σ : Nat → Nat) (L : Nat) (F : AV → AV → Prop) (h : Heap) : List Blk → List Nat → Prop
  | [], [] => True
  | b :: bs, γ :: γs => RenB σ L F b (h.at γ) ∧ BlksOk σ L F h bs γs
  | _, _ => False
def keepB (m : Nat) (s : List Nat) : Bool := (List.range m).all fun β => Nat.blt β s.length && Nat.beq (s.getD β 0) β
def nodupB : List Nat → Bool
  | [] => true
  | a :: l => l.all (fun b => !Nat.beq a b) && nodupB l
/-- Rows that are seen apart from the heap from now on: where no name is kept, of blocks that are let go. -/
def frzF (m : Nat) (s : List Nat) (h : Heap) (a b : AV) : Prop := cond (Nat.beq m 0) (FinQ (fun β => !s.contains β) h a b) False
/-- The state (t, h), seen as (slots l, h1); the names below m stay. -/
def Reab (m : Nat) (t : Nat → AV) (h : Heap) (l : List (Nat × AV)) (h1 : Heap) : Prop :=
  ∃ s : List Nat, nodupB s = true ∧ keepB m s = true ∧ SlotsOk (fun β => s.getD β 0) s.length (frzF m s h) t l ∧ BlksOk (fun β => s.getD β 0) s.length (frzF m s h) h h1 s

theorem nodupB_ok : ∀ {s : List Nat}, nodupB s = true → ∀ {i j : Nat}, i < s.length → j < s.length → s.getD i 0 = s.getD j 0 → i = j
  | [], _, i, j, hi, _, _ => by simp at hi
  | a :: l, h, i, j, hi, hj, e => by
    unfold nodupB at h
    simp only [Bool.and_eq_true, List.all_eq_true, Bool.not_eq_true'] at h
    have ne : ∀ b ∈ l, a ≠ b := fun b hb e => by have := h.1 b hb; rw [e] at this; simp at this
    cases i with
    | zero =>
      cases j with
      | zero => rfl
      | succ j =>
        simp only [List.length_cons, Nat.add_lt_add_iff_right] at hj
        simp only [List.getD_cons_zero, List.getD_cons_succ] at e
        rw [List.getD_eq_getElem?_getD, List.getElem?_eq_getElem hj] at e
        exact absurd e (ne _ (List.getElem_mem hj))
    | succ i =>
      simp only [List.length_cons, Nat.add_lt_add_iff_right] at hi
      cases j with
      | zero =>
        simp only [List.getD_cons_zero, List.getD_cons_succ] at e
        rw [List.getD_eq_getElem?_getD, List.getElem?_eq_getElem hi] at e
        exact absurd e.symm (ne _ (List.getElem_mem hi))
      | succ j =>
        simp only [List.length_cons, Nat.add_lt_add_iff_right] at hj
        simp only [List.getD_cons_succ] at e
        rw [nodupB_ok h.2 hi hj e]

theorem blksOk_get {σ : Nat → Nat} {L : Nat} {F : AV → AV → Prop} {h : Heap} : ∀ {bs : List Blk} {s : List Nat}, BlksOk σ L F h bs s → bs.length = s.length ∧ ∀ β, β < s.length → RenB σ L F (Heap.at bs β) (h.at (s.getD β 0))
  | [], [], _ => ⟨rfl, fun β hβ => by simp at hβ⟩
  | [], _ :: _, h => by unfold BlksOk at h; exact h.elim
  | _ :: _, [], h => by unfold BlksOk at h; exact h.elim
  | b :: bs, γ :: γs, h => by
    unfold BlksOk at h
    obtain ⟨h1, h2⟩ := h
    obtain ⟨k1, k2⟩ := blksOk_get h2
    refine ⟨by simp [k1], fun β hβ => ?_⟩
    cases β with
    | zero => exact h1
    | succ β => simpa [Heap.at] using k2 β (by simpa using hβ)

/-- From one situation to a later one: the names below m stay. -/
structure ExtM (m B : Nat) (ρ : Nat → Option Nat) (own : Nat → Prop) (w : World) (ρ' : Nat → Option Nat) (own' : Nat → Prop) (w' : World) : Prop where
  os : w'.os = w.os
  tape : w'.tape = w.tape
  output : w'.output = w.output
  size : w.heap.size ≤ w'.heap.size
  ren : ∀ β b, β < m → ρ β = some b → ρ' β = some b
  keep : ∀ b, b < w.heap.size → ¬ own b → w'.heap[b]? = w.heap[b]? ∧ ¬ own' b
  shape : ∀ b s, w.shape? b = some s → w'.shape? b = some s
  low : ∀ b, b < B → w'.heap[b]? = w.heap[b]?
  grow : ∀ b, (m = 0 → b < B) → own b → own' b

section
variable {m B : Nat} {ρ ρ' ρ'' : Nat → Option Nat} {own own' own'' : Nat → Prop} {w w' w'' : World}
theorem Ext.toM (h : Ext B ρ own w ρ' own' w') : ExtM m B ρ own w ρ' own' w' := ⟨h.os, h.tape, h.output, h.size, fun β b _ => h.ren β b, h.keep, h.shape, h.low, fun b _ => h.grow b⟩
theorem ExtM.trans (h : ExtM m B ρ own w ρ' own' w') (k : ExtM m B ρ' own' w' ρ'' own'' w'') : ExtM m B ρ own w ρ'' own'' w'' :=
  ⟨k.os.trans h.os, k.tape.trans h.tape, k.output.trans h.output, Nat.le_trans h.size k.size, fun β b hm hb => k.ren β b hm (h.ren β b hm hb),
    fun b hb ho => by
      obtain ⟨h1, h2⟩ := h.keep b hb ho
      obtain ⟨h3, h4⟩ := k.keep b (Nat.lt_of_lt_of_le hb h.size) h2
      exact ⟨h3.trans h1, h4⟩,
    fun b s hs => k.shape b s (h.shape b s hs), fun b hb => (k.low b hb).trans (h.low b hb), fun b hm hb => k.grow b hm (h.grow b hm hb)⟩

/-- THE STATE DRAWN ANEW. -/
theorem reab_sound {n : Nat} {t : Nat → AV} {h : Heap} {a : Act} (A : At B ρ own w n t h a) {l : List (Nat × AV)} {h1 : Heap} (R : Reab m t h l h1) :
    ∃ ρ' own', At B ρ' own' w n (slots l) h1 a ∧ ExtM m B ρ own w ρ' own' w := by
  obtain ⟨s, s1, s2, s3, s4⟩ := R
  obtain ⟨hl, hb⟩ := blksOk_get s4
  have hρ : ∀ β, Nat.blt β s.length = true → (bif Nat.blt β s.length then ρ (s.getD β 0) else none) = ρ (s.getD β 0) := fun β e => by rw [e]; rfl
  have lt_of : ∀ β b, (bif Nat.blt β s.length then ρ (s.getD β 0) else none) = some b → β < s.length ∧ ρ (s.getD β 0) = some b := by
    intro β b e
    cases hc : Nat.blt β s.length with
    | false => rw [hc] at e; cases e
    | true =>
      rw [hc] at e
      refine ⟨?_, e⟩
      unfold Nat.blt at hc
      exact Nat.le_of_ble_eq_true hc
  have live_of : ∀ β, β < s.length → (Heap.at h1 β).live → (h.at (s.getD β 0)).live := by
    intro β hβ hlv
    have := hb β hβ
    cases hk : Heap.at h1 β with
    | cells ro ty cs =>
      rw [hk] at this hlv
      unfold RenB at this
      obtain ⟨cs', e, _⟩ := this
      rw [e]
      exact hlv
    | map k e es =>
      rw [hk] at this hlv
      unfold RenB at this
      rw [this.1]
      exact hlv
    | dead => rw [hk] at hlv; exact hlv.elim
  have atge : ∀ β, ¬ β < s.length → Heap.at h1 β = .dead := by
    intro β hβ
    unfold Heap.at
    rw [List.getD_eq_getElem?_getD, List.getElem?_eq_none (by omega)]
    rfl
  have livelt : ∀ β, (Heap.at h1 β).live → β < s.length := by
    intro β hlv
    by_cases hβ : β < s.length
    · exact hβ
    · rw [atge β hβ] at hlv
      exact hlv.elim
  have mem_s : ∀ β, β < s.length → s.getD β 0 ∈ s := fun β hβ => by
    rw [List.getD_eq_getElem?_getD, List.getElem?_eq_getElem hβ]; exact List.getElem_mem hβ
  have ho : ∀ b, (own b ∧ ¬ (m = 0 ∧ ∃ γ, γ ∉ s ∧ (h.at γ).live ∧ ρ γ = some b)) → own b := fun b h => h.1
  have kept : ∀ β b, β < s.length → (h.at (s.getD β 0)).live → ρ (s.getD β 0) = some b → own b → (own b ∧ ¬ (m = 0 ∧ ∃ γ, γ ∉ s ∧ (h.at γ).live ∧ ρ γ = some b)) := by
    rintro β b hβ hlv hr hown
    refine ⟨hown, ?_⟩
    rintro ⟨_, γ, g1, g2, g3⟩
    have := A.H.inj _ _ b g2 hlv g3 hr
    rw [this] at g1
    exact g1 (mem_s β hβ)
  have hF : ∀ a b v, frzF m s h a b → VR ρ own w b v → VR (fun β => bif Nat.blt β s.length then ρ (s.getD β 0) else none) (fun b => own b ∧ ¬ (m = 0 ∧ ∃ γ, γ ∉ s ∧ (h.at γ).live ∧ ρ γ = some b)) w a v := by
    intro a b v hf hv
    unfold frzF at hf
    cases hm : Nat.beq m 0 with
    | false => rw [hm] at hf; exact hf.elim
    | true =>
      rw [hm] at hf
      have hm0 := Nat.eq_of_beq_eq_true hm
      refine fin_sound A.H ho (fun γ b hQ hl hr hown => ?_) a b v hf hv
      refine hown.2 ⟨hm0, γ, ?_, hl, hr⟩
      simpa using hQ
  refine ⟨fun β => bif Nat.blt β s.length then ρ (s.getD β 0) else none, fun b => own b ∧ ¬ (m = 0 ∧ ∃ γ, γ ∉ s ∧ (h.at γ).live ∧ ρ γ = some b), ⟨?_, fun i => (slotsOk_get s3 i).vr hρ ho hF _ _ _ (A.T i), A.size, A.defers⟩, ?_⟩
  · refine ⟨fun β => ?_, fun β hβ => ?_, fun β β' b l1 l2 e1 e2 => ?_, fun β b e hr => ?_, fun b h => A.H.own b h.1, fun β b lv e => ?_, A.H.base⟩
    · by_cases hβ : β < s.length
      · have hR := hb β hβ
        have hB := A.H.blk (s.getD β 0)
        have hbl : Nat.blt β s.length = true := by unfold Nat.blt; exact Nat.ble_eq_true_of_le hβ
        cases hk : Heap.at h1 β with
        | cells ro ty cs =>
          rw [hk] at hR
          unfold RenB at hR
          obtain ⟨cs', e, hR⟩ := hR
          rw [e] at hB
          obtain ⟨b, n', r1, r2, r3, r4, r5, _⟩ := hB
          refine ⟨b, n', (hρ β hbl).trans r1, r2, by rw [hR.length]; exact r3, fun i x hx => ?_, fun hro => ⟨kept β b hβ (by rw [e]; exact hro) r1 (r5 hro).1, (r5 hro).2⟩, trivial⟩
          obtain ⟨y, hy, hxy⟩ := hR.get hx
          obtain ⟨v, v1, v2, v3⟩ := r4 i y hy
          exact ⟨v, v1, hxy.vr hρ ho hF _ _ _ v2, v3⟩
        | map k e es =>
          rw [hk] at hR
          unfold RenB at hR
          obtain ⟨e', hs⟩ := hR
          rw [e'] at hB
          obtain ⟨b, ms, clock, r1, r2, r3, r4, r5⟩ := hB
          refine ⟨b, ms, clock, (hρ β hbl).trans r1, r2, kept β b hβ (by rw [e']; trivial) r1 r3, r4, fun i k' v hx => ?_⟩
          obtain ⟨x, x1, x2, x3⟩ := r5 i k' v hx
          have := hs _ (List.mem_of_getElem? hx)
          exact ⟨x, x1, VR.solid ho _ _ this.1 x2, VR.solid ho _ _ this.2 x3⟩
        | dead => trivial
      · rw [atge β hβ]
        trivial
    · have : Nat.blt β s.length = false := by
        cases hc : Nat.blt β s.length with
        | false => rfl
        | true => unfold Nat.blt at hc; have := Nat.le_of_ble_eq_true hc; omega
      simp only [this, cond_false]
    · have b1 := livelt β l1
      have b2 := livelt β' l2
      obtain ⟨_, e1⟩ := lt_of β b e1
      obtain ⟨_, e2⟩ := lt_of β' b e2
      exact nodupB_ok s1 b1 b2 (A.H.inj _ _ b (live_of β b1 l1) (live_of β' b2 l2) e1 e2)
    · obtain ⟨hβ, e⟩ := lt_of β b e
      refine (A.H.ro _ b e ?_).imp (fun hn h => hn h.1) id
      have := hb β hβ
      cases hk : Heap.at h1 β with
      | cells ro ty cs =>
        rw [hk] at this hr
        unfold RenB at this
        obtain ⟨cs', e', _⟩ := this
        rw [e']
        exact hr
      | map k e es => rw [hk] at hr; exact hr.elim
      | dead => rw [hk] at hr; exact hr.elim
    · obtain ⟨hβ, e⟩ := lt_of β b e
      exact A.H.low _ b (live_of β hβ lv) e
  · refine ⟨rfl, rfl, rfl, Nat.le_refl _, fun β b hm hb' => ?_, fun b hb hn => ⟨rfl, fun h => hn h.1⟩, fun b s h => h, fun b _ => rfl, fun b hm hown => ⟨hown, ?_⟩⟩
    rotate_left
    · rintro ⟨h0, γ, _, g2, g3⟩
      have := A.H.low γ b g2 g3
      have := hm h0
      omega
    unfold keepB at s2
    simp only [List.all_eq_true, Bool.and_eq_true, List.mem_range, Nat.beq_eq] at s2
    obtain ⟨k1, k2⟩ := s2 β hm
    show (bif Nat.blt β s.length then ρ (s.getD β 0) else none) = some b
    rw [k1, k2]
    exact hb'
end

/-! ### The text -/
def roundsQ (m : Nat) (body : (Nat → AV) → Heap → KontE → Prop) (K : KontE) : Nat → (Nat → AV) → Heap → Prop
  | 0, _, _ => False
  | n + 1, t, h => ∃ l h1, Reab m t h l h1 ∧ body (slots l) h1 fun e t h => match e with
    | .normal => roundsQ m body K n t h
    | e => K e t h

def awq (E : Env) (G : Gen) (m : Nat) : Code → (Nat → AV) → Heap → KontE → Prop
  | .skip, t, h, K => K .normal t h
  | .label _, t, h, K => K .normal t h
  | .region _ ops draw, t, h, K => cond draw (awpOpsD E ops ops.toList 0 t h [] (K .normal)) (awpOps E G ops ops.toList t h (K .normal))
  | .seq a b, t, h, K => awq E G m a t h fun e t h => match e with
    | .normal => awq E G m b t h K
    | e => K e t h
  | .cond c a b, t, h, K => match ev t c with
    | some (.bool c) => cond c (awq E G m a t h K) (awq E G m b t h K)
    | _ => False
  | .block id c, t, h, K => awq E G m c t h fun e t h => match e with
    | .exit i => cond (Nat.beq i id) (K .normal t h) (K (.exit i) t h)
    | e => K e t h
  | .loop c, t, h, K => ∃ n, roundsQ m (awq E G m c) K n t h
  | .scope c, t, h, K => awq E G m c t h K
  | .exit id, t, h, K => K (.exit id) t h
  | .ret, t, h, K => K .ret t h
  | _, _, _, _ => False

def awqFn (E : Env) (G : Gen) (fn : Func) (args : List AV) (h : Heap) (K : AV → Heap → Prop) : Prop :=
  match fn.body with
  | none => False
  | some c => awq E G h.length c (fun i => args.getD i .undef) h fun e t h => match e with
    | .exit _ => False
    | _ => match resultsA E t h fn.results.toList with
      | some (c, l) => cond c (K (oneOrTup l) h) False
      | none => False

section
variable {P : Program} {E : Env} {G : Gen} {B m : Nat}

def PostM (m B : Nat) (ρ : Nat → Option Nat) (own : Nat → Prop) (w : World) (n : Nat) (K : KontE) : Exit → Act → World → Prop :=
  fun e a' w' => ∃ x, e = Ex.out x ∧ ∃ t' h' ρ' own', K x t' h' ∧ At B ρ' own' w' n t' h' a' ∧ ExtM m B ρ own w ρ' own' w'
theorem PostM.trans {ρ ρ' : Nat → Option Nat} {own own' : Nat → Prop} {w w' w'' : World} {n : Nat} {K : KontE} {e : Exit} {a'' : Act} (hE : ExtM m B ρ own w ρ' own' w') (h : PostM m B ρ' own' w' n K e a'' w'') : PostM m B ρ own w n K e a'' w'' := by
  obtain ⟨x, rfl, t', h', ρ', own', k1, k2, k3⟩ := h
  exact ⟨x, rfl, t', h', ρ', own', k1, k2, hE.trans k3⟩

theorem To.toM {ρ : Nat → Option Nat} {own : Nat → Prop} {w w' : World} {n : Nat} {K : KontE} {x : Ex} {a' : Act} (h : To B ρ own w n (K x) a' w') : PostM m B ρ own w n K (Ex.out x) a' w' := by
  obtain ⟨t', h', ρ', own', k1, k2, k3⟩ := h
  exact ⟨x, rfl, t', h', ρ', own', k1, k2, k3.toM⟩

/-- THE TEXT. -/
theorem awq_sound (hE : EnvOk P E) (hG : GenOk P G) {n : Nat} : ∀ (c : Code), codeOk n c = true → ∀ (t : Nat → AV) (h : Heap) (K : KontE), awq E G m c t h K →
    ∀ (ρ : Nat → Option Nat) (own : Nat → Prop) (w : World) (a : Act), At B ρ own w n t h a → c.wp P (PostM m B ρ own w n K) a w := by
  intro c
  have same : ∀ (ρ : Nat → Option Nat) (own : Nat → Prop) (w : World), ExtM m B ρ own w ρ own w := fun ρ own w => (Ext.refl (B := B) ρ own w).toM
  induction c with
  | skip => intro _ t h K hk ρ own w a A; exact wp_skip ⟨.normal, rfl, t, h, ρ, own, hk, A, same ..⟩
  | label l => intro _ t h K hk ρ own w a A; exact wp_label ⟨.normal, rfl, t, h, ρ, own, hk, A, same ..⟩
  | exit id => intro _ t h K hk ρ own w a A; exact wp_exit ⟨.exit id, rfl, t, h, ρ, own, hk, A, same ..⟩
  | ret => intro _ t h K hk ρ own w a A; exact wp_ret ⟨.ret, rfl, t, h, ρ, own, hk, A, same ..⟩
  | goto l => intro _ t h K hk; exact hk.elim
  | refuse s => intro _ t h K hk; exact hk.elim
  | rangeFunc f p x y _ _ => intro _ t h K hk; exact hk.elim
  | region id ops draw =>
    intro hc t h K hk ρ own w a A
    simp only [codeOk, Bool.and_eq_true, Array.all_eq_true_iff_forall_mem] at hc
    have hb : ∀ o ∈ ops.toList, Bnd n o := fun o ho d hd => by
      have := hc.1 o (by simpa using ho)
      rw [hd] at this
      exact Nat.le_of_ble_eq_true this
    unfold awq at hk
    cases draw with
    | false => exact wp_region_list (ops_sound hE hG ops.toList hb t h (K .normal) hk ρ own w a A fun a' w' hto => To.toM (x := .normal) hto)
    | true => exact opsD_sound' hE hb (by simpa using hc.2) hk A fun a' w' hto => To.toM (x := .normal) hto
  | seq x y ihx ihy =>
    intro hc t h K hk ρ own w a A
    simp only [codeOk, Bool.and_eq_true] at hc
    unfold awq at hk
    refine wp_seq (wp_mono (ihx hc.1 t h _ hk ρ own w a A) ?_)
    rintro e a' w' ⟨x', rfl, t', h', ρ', own', k1, k2, k3⟩
    cases x' with
    | normal => exact wp_mono (ihy hc.2 t' h' K k1 ρ' own' w' a' k2) fun e a'' w'' hp => hp.trans k3
    | exit id => exact ⟨.exit id, rfl, t', h', ρ', own', k1, k2, k3⟩
    | ret => exact ⟨.ret, rfl, t', h', ρ', own', k1, k2, k3⟩
  | cond c x y ihx ihy =>
    intro hc t h K hk ρ own w a A
    simp only [codeOk, Bool.and_eq_true] at hc
    unfold awq at hk
    split at hk
    · rename_i b hb
      have hv := ev_sound A.T hb
      rw [vbool] at hv
      cases b with
      | true => exact wp_cond_true hv (ihx hc.1 t h K hk ρ own w a A)
      | false => exact wp_cond_false hv (ihy hc.2 t h K hk ρ own w a A)
    · exact hk.elim
  | block id c ih =>
    intro hc t h K hk ρ own w a A
    unfold awq at hk
    refine wp_block (wp_mono (ih hc t h _ hk ρ own w a A) ?_)
    rintro e a' w' ⟨x', rfl, t', h', ρ', own', k1, k2, k3⟩
    cases x' with
    | normal => exact ⟨.normal, rfl, t', h', ρ', own', k1, k2, k3⟩
    | ret => exact ⟨.ret, rfl, t', h', ρ', own', k1, k2, k3⟩
    | exit i =>
      simp only at k1
      simp only [Ex.out, Exit.inBlock]
      by_cases hi : i = id
      · subst hi
        rw [show Nat.beq i i = true by simp] at k1
        rw [if_pos rfl]
        exact ⟨.normal, rfl, t', h', ρ', own', k1, k2, k3⟩
      · have : Nat.beq i id = false := by
          cases hb : Nat.beq i id with
          | false => rfl
          | true => exact absurd (Nat.eq_of_beq_eq_true hb) hi
        rw [this] at k1
        rw [if_neg hi]
        exact ⟨.exit i, rfl, t', h', ρ', own', k1, k2, k3⟩
  | scope c ih =>
    intro hc t h K hk ρ own w a A
    unfold awq at hk
    refine wp_scope_straight (wp_mono (ih hc t h K hk ρ own w a A) ?_)
    rintro e a' w' ⟨x', rfl, hto⟩
    cases x' <;> exact ⟨_, rfl, hto⟩
  | loop c ih =>
    intro hc t h K hk ρ own w a A
    unfold awq at hk
    obtain ⟨q, hm⟩ := hk
    refine wp_loop_rounds q ?_
    have key : ∀ q t h ρ own w a, roundsQ m (awq E G m c) K q t h → At B ρ own w n t h a → Code.rounds P c (PostM m B ρ own w n K) q a w := by
      intro q
      induction q with
      | zero => intro t h ρ own w a hr; exact hr.elim
      | succ q ihq =>
        intro t h ρ own w a hr A
        obtain ⟨l, h1, hR, hr⟩ := hr
        obtain ⟨ρ1, own1, A1, X1⟩ := reab_sound A hR
        refine wp_mono (ih hc _ h1 _ hr ρ1 own1 w a A1) ?_
        rintro e a' w' ⟨x', rfl, t', h', ρ', own', k1, k2, k3⟩
        replace k3 := X1.trans k3
        cases x' with
        | normal =>
          have := ihq t' h' ρ' own' w' a' k1 k2
          have mono : ∀ (q : Nat) (a : Act) (w0 : World), Code.rounds P c (PostM m B ρ' own' w' n K) q a w0 → Code.rounds P c (PostM m B ρ own w n K) q a w0 := by
            intro q
            induction q with
            | zero => intro a w0 h; exact h
            | succ q ihq' =>
              intro a w0 h
              refine wp_mono h fun e a1 w1 he => ?_
              cases e <;> first | exact ihq' _ _ he | exact he.trans k3
          exact mono q a' w' this
        | exit id => exact ⟨.exit id, rfl, t', h', ρ', own', k1, k2, k3⟩
        | ret => exact ⟨.ret, rfl, t', h', ρ', own', k1, k2, k3⟩
    exact key q t h ρ own w a hm A

/-- A FUNCTION'S TEXT. -/
theorem awqFn_sound (hE : EnvOk P E) (hG : GenOk P G) {f : FuncId} {fn : Func} (hf : P.funcs[f]? = some fn) (hok : fnOk fn = true) {args : List AV} {h : Heap} {K : AV → Heap → Prop} (hk : awqFn E G fn args h K) :
    Enters P f ∧ ∀ B ρ own w (cargs : Array Value), (h.length = 0 → B = w.heap.size) → HR B ρ own w h → LR ρ own w args cargs.toList → Calls P f cargs w (CallPost B ρ own w K) := by
  unfold fnOk at hok
  unfold awqFn at hk
  cases hb : fn.body with
  | none => rw [hb] at hk; exact hk.elim
  | some c =>
    rw [hb] at hk hok
    simp only [Bool.and_eq_true, decide_eq_true_eq] at hok hk
    refine ⟨⟨fn, hf, hok.1, by rw [hb]; rfl⟩, fun B ρ own w cargs hB0 H hl => ?_⟩
    refine calls_of_wp hf hb ?_
    have A : At B ρ own w fn.ntmps (fun i => args.getD i .undef) h { tmps := cargs ++ Array.replicate (fn.ntmps - cargs.size) undef, defers := [] } := by
      refine ⟨H, fun i => ?_, by simp; omega, rfl⟩
      have hlen := hl.length
      rw [Array.getD_eq_getD_getElem?]
      by_cases hi : i < cargs.size
      · rw [Array.getElem?_append_left hi]
        have hi' : i < args.length := by rw [hlen]; simpa using hi
        obtain ⟨v, k1, k2⟩ := hl.get (List.getElem?_eq_getElem hi')
        rw [List.getD_eq_getElem?_getD, List.getElem?_eq_getElem hi']
        have k1' : cargs[i]? = some v := by simpa using k1
        rw [k1']
        exact k2
      · rw [Array.getElem?_append_right (by omega)]
        rw [List.getD_eq_getElem?_getD, List.getElem?_eq_none (by rw [hlen]; simpa using hi)]
        have : ((Array.replicate (fn.ntmps - cargs.size) undef)[i - cargs.size]?).getD undef = undef := by
          rw [Array.getElem?_replicate]
          split <;> rfl
        rw [this]
        exact vundef
    have full : ∀ {ρ' own' w'}, ExtM h.length B ρ own w ρ' own' w' → Ext B ρ own w ρ' own' w' := fun X =>
      ⟨X.os, X.tape, X.output, X.size, fun β b hb => X.ren β b (by
        by_cases hlt : β < h.length
        · exact hlt
        · rw [H.dom β (by omega)] at hb; cases hb) hb, X.keep, X.shape, X.low, fun b hown => X.grow b (fun h0 => by rw [hB0 h0]; exact H.own b hown) hown⟩
    refine wp_mono (awq_sound hE hG c hok.2 _ _ _ hk ρ own w _ A) ?_
    rintro e a' w' ⟨x, rfl, t', h', ρ', own', k1, A', k3⟩
    have fin : (match resultsA E t' h' fn.results.toList with
        | some (c, l) => cond c (K (oneOrTup l) h') False
        | none => False) → a'.defers = [] ∧ ∃ v, (results fn a'.tmps).run P w' = .ok v w' ∧ CallPost B ρ own w K (.returned v) w' := by
      intro hr
      split at hr
      · rename_i c' l hres
        cases c' with
        | false => exact hr.elim
        | true =>
          obtain ⟨cvs, c1, c2⟩ := results_sound hE.ty A' hres
          refine ⟨A'.defers, _, ?_, oneOrTup l, h', _, ρ', own', rfl, hr, A'.H, full k3, one_sound c2⟩
          rw [results_eq, Sem.run_bind, Array.mapM_eq_mapM_toList, Sem.run_map, c1]
          rfl
      · exact hr.elim
    cases x with
    | exit id => exact k1.elim
    | normal => exact fin k1
    | ret => exact fin k1

/-- THE RULE FOR LOOPS. -/
theorem loopq {body : (Nat → AV) → Heap → KontE → Prop} {K : KontE} {X : Type} (I : X → Prop) (S : X → List (Nat × AV)) (H : X → Heap) (μ : X → Nat)
    (step : ∀ x, I x → ∀ J : KontE, (∀ y t' h', I y → μ y < μ x → Reab m t' h' (S y) (H y) → J .normal t' h') → (∀ e t' h', e ≠ .normal → K e t' h' → J e t' h') → body (slots (S x)) (H x) J)
    {t : Nat → AV} {h : Heap} (x0 : X) (i0 : I x0) (h0 : Reab m t h (S x0) (H x0)) : ∃ n, roundsQ m body K n t h := by
  have key : ∀ q x t h, I x → μ x < q → Reab m t h (S x) (H x) → roundsQ m body K q t h := by
    intro q
    induction q with
    | zero => intro x t h _ hm; omega
    | succ q ih =>
      intro x t h hI hm hR
      unfold roundsQ
      refine ⟨S x, H x, hR, step x hI _ (fun y t' h' hy h1 h2 => ih y t' h' hy (by omega) h2) (fun e t' h' hne he => ?_)⟩
      cases e with
      | normal => exact absurd rfl hne
      | exit id => exact he
      | ret => exact he
  exact ⟨μ x0 + 1, key _ x0 t h i0 (by omega) h0⟩

end
end Go.Abs
