import Derived.Test.YtaifmmemfmapkaaGreatAbsA
import Derived.Laws.Cells
import Derived.Laws.World
import Derived.Below
import Derived.Laws.IdiomCopy
import Derived.Deep.MidRow
import Derived.ChangeKeysEq
import Derived.Laws.Strings
import Derived.Lib.Builder
import Derived.LaidEqlPtr
import Derived.Lib.UnsafeStr
set_option linter.unusedVariables false
namespace Go.Abs

section
variable (ρ : Nat → Option Nat) (own : Nat → Prop) (w : World)
mutual
/-- An abstract value stands for a value of the machine. -/
def VR : AV → Value → Prop
  | .bool b, v => v = .bool b
  | .int k n, v => v = .int k n
  | .str s, v => v = .string ⟨s.toArray⟩
  | .nilp, v => v = .pointer none
  | .nilm, v => v = .map none
  | .nilf, v => v = .nilFunc
  | .nili, v => v = .nilIface
  | .ptr β off, v => ∃ b, ρ β = some b ∧ v = .pointer (some ⟨b, off, none⟩)
  | .rp cs, v => ∃ ad, v = .pointer (some ad) ∧ CR ad 0 cs
  | .sl β sz off len, v => ∃ b a cap t n, ρ β = some b ∧ v = .slice a len cap ∧ len ≤ cap ∧ (0 < cap → a = some ⟨b, off, none⟩) ∧ w.shape? b = some (t, n) ∧ (0 < cap → off + cap * sz ≤ n)
  | .row sz xs, v => ∃ A cap, v = .slice A xs.length cap ∧ xs.length ≤ cap ∧ (0 < xs.length → ∃ ad, A = some ad ∧ RR ad sz 0 xs)
  | .emp isnil, v => ∃ A, v = .slice A 0 0 ∧ (isnil = true → A = none)
  | .map β, v => ∃ b, ρ β = some b ∧ v = .map (some b)
  | .fn f a c, v => ∃ a' c' : Array Value, v = .func f a' c' ∧ LR a a'.toList ∧ LR c c'.toList
  | .ifc t x, v => ∃ y, v = .iface t y ∧ VR x y
  | .agg cs, v => ∃ c : Array Value, v = .agg c ∧ LR cs c.toList ∧ ∀ x ∈ c.toList, x.oneCell' = true
  | .tup cs, v => ∃ c : Array Value, v = .tuple c ∧ LR cs c.toList
  | .any, _ => True
def CR (ad : Addr) : Nat → List AV → Prop
  | _, [] => True
  | i, c :: cs => (∃ v, w.cell? (ad.add i) = some v ∧ ¬ own ad.block ∧ VR c v ∧ v.oneCell' = true) ∧ CR ad (i + 1) cs
def RR (ad : Addr) (sz : Nat) : Nat → List (List AV) → Prop
  | _, [] => True
  | i, x :: xs => (x.length = sz ∧ CR ad (i * sz) x) ∧ RR ad sz (i + 1) xs
def LR : List AV → List Value → Prop
  | [], vs => vs = []
  | a :: as, vs => ∃ v r, vs = v :: r ∧ VR a v ∧ LR as r
end
end

/-- From one situation to a later one. -/
structure Ext (B : Nat) (ρ : Nat → Option Nat) (own : Nat → Prop) (w : World) (ρ' : Nat → Option Nat) (own' : Nat → Prop) (w' : World) : Prop where
  os : w'.os = w.os
  tape : w'.tape = w.tape
  output : w'.output = w.output
  size : w.heap.size ≤ w'.heap.size
  ren : ∀ β b, ρ β = some b → ρ' β = some b
  keep : ∀ b, b < w.heap.size → ¬ own b → w'.heap[b]? = w.heap[b]? ∧ ¬ own' b
  shape : ∀ b s, w.shape? b = some s → w'.shape? b = some s
  low : ∀ b, b < B → w'.heap[b]? = w.heap[b]?
  grow : ∀ b, own b → own' b

theorem Ext.refl {B : Nat} (ρ : Nat → Option Nat) (own : Nat → Prop) (w : World) : Ext B ρ own w ρ own w :=
  ⟨rfl, rfl, rfl, Nat.le_refl _, fun _ _ h => h, fun _ _ h => ⟨rfl, h⟩, fun _ _ h => h, fun _ _ => rfl, fun _ h => h⟩
theorem Ext.trans {B : Nat} {ρ ρ' ρ'' : Nat → Option Nat} {own own' own'' : Nat → Prop} {w w' w'' : World} (h : Ext B ρ own w ρ' own' w') (k : Ext B ρ' own' w' ρ'' own'' w'') : Ext B ρ own w ρ'' own'' w'' :=
  ⟨k.os.trans h.os, k.tape.trans h.tape, k.output.trans h.output, Nat.le_trans h.size k.size, fun β b hb => k.ren β b (h.ren β b hb),
    fun b hb ho => by
      obtain ⟨h1, h2⟩ := h.keep b hb ho
      obtain ⟨h3, h4⟩ := k.keep b (Nat.lt_of_lt_of_le hb h.size) h2
      exact ⟨h3.trans h1, h4⟩,
    fun b s hs => k.shape b s (h.shape b s hs), fun b hb => (k.low b hb).trans (h.low b hb), fun b hb => k.grow b (h.grow b hb)⟩

theorem cell_lt {w : World} {ad : Addr} {v : Value} (h : w.cell? ad = some v) : ad.block < w.heap.size := World.block_lt_of_cell? w ad h
theorem add_block (ad : Addr) (n : Nat) : (ad.add n).block = ad.block := by unfold Addr.add; split <;> rfl
theorem add_add (ad : Addr) (i j : Nat) : (ad.add i).add j = ad.add (i + j) := by
  unfold Addr.add
  by_cases h1 : i = 0 <;> by_cases h2 : j = 0 <;> simp [h1, h2, Nat.add_assoc]
theorem add_off (b o n : Nat) : (⟨b, o, none⟩ : Addr).add n = ⟨b, o + n, none⟩ := by
  unfold Addr.add; split <;> simp_all

theorem Ext.cell {B : Nat} {ρ ρ' : Nat → Option Nat} {own own' : Nat → Prop} {w w' : World} (h : Ext B ρ own w ρ' own' w') {ad : Addr} {v : Value} (ho : ¬ own ad.block) (hc : w.cell? ad = some v) : w'.cell? ad = some v := by
  have hb := cell_lt hc
  obtain ⟨h1, _⟩ := h.keep _ hb ho
  unfold World.cell? at *
  rw [h1]
  exact hc

section
variable {B : Nat} {ρ ρ' : Nat → Option Nat} {own own' : Nat → Prop} {w w' : World}
mutual
theorem VR.mono (h : Ext B ρ own w ρ' own' w') : ∀ (a : AV) (v : Value), VR ρ own w a v → VR ρ' own' w' a v
  | .bool _, _, hv | .int _ _, _, hv | .str _, _, hv | .nilp, _, hv | .nilm, _, hv | .nilf, _, hv | .nili, _, hv => hv
  | .ptr _ _, _, hv => by
    unfold VR at *
    obtain ⟨b, h1, h2⟩ := hv
    exact ⟨b, h.ren _ _ h1, h2⟩
  | .map _, _, hv => by
    unfold VR at *
    obtain ⟨b, h1, h2⟩ := hv
    exact ⟨b, h.ren _ _ h1, h2⟩
  | .rp cs, _, hv => by
    unfold VR at *
    obtain ⟨ad, h1, h3⟩ := hv
    exact ⟨ad, h1, CR.mono h ad 0 _ h3⟩
  | .sl _ _ _ _, _, hv => by
    unfold VR at *
    obtain ⟨b, a, cap, t, n, h1, h2, h3, h4, h5, h6⟩ := hv
    exact ⟨b, a, cap, t, n, h.ren _ _ h1, h2, h3, h4, h.shape _ _ h5, h6⟩
  | .row sz xs, _, hv => by
    unfold VR at *
    obtain ⟨A, cap, h1, h2, h3⟩ := hv
    refine ⟨A, cap, h1, h2, fun hp => ?_⟩
    obtain ⟨ad, h4, h6⟩ := h3 hp
    exact ⟨ad, h4, RR.mono h ad sz _ _ h6⟩
  | .emp _, _, hv => by unfold VR at *; exact hv
  | .fn _ a c, _, hv => by
    unfold VR at *
    obtain ⟨a', c', h1, h2, h3⟩ := hv
    exact ⟨a', c', h1, LR.mono h _ _ h2, LR.mono h _ _ h3⟩
  | .ifc _ x, _, hv => by
    unfold VR at *
    obtain ⟨y, h1, h2⟩ := hv
    exact ⟨y, h1, VR.mono h _ _ h2⟩
  | .agg cs, _, hv => by
    unfold VR at *
    obtain ⟨c, h1, h2, h3⟩ := hv
    exact ⟨c, h1, LR.mono h _ _ h2, h3⟩
  | .tup cs, _, hv => by
    unfold VR at *
    obtain ⟨c, h1, h2⟩ := hv
    exact ⟨c, h1, LR.mono h _ _ h2⟩
  | .any, _, _ => by unfold VR; trivial
theorem CR.mono (h : Ext B ρ own w ρ' own' w') (ad : Addr) : ∀ (i : Nat) (cs : List AV), CR ρ own w ad i cs → CR ρ' own' w' ad i cs
  | _, [], _ => by unfold CR; trivial
  | i, c :: cs, hc => by
    unfold CR at *
    obtain ⟨⟨v, h1, h0, h2, h3⟩, h4⟩ := hc
    have hlt : ad.block < w.heap.size := by have := cell_lt h1; rwa [add_block] at this
    exact ⟨⟨v, h.cell (by rwa [add_block]) h1, (h.keep _ hlt h0).2, VR.mono h _ _ h2, h3⟩, CR.mono h ad _ _ h4⟩
theorem RR.mono (h : Ext B ρ own w ρ' own' w') (ad : Addr) (sz : Nat) : ∀ (i : Nat) (xs : List (List AV)), RR ρ own w ad sz i xs → RR ρ' own' w' ad sz i xs
  | _, [], _ => by unfold RR; trivial
  | i, x :: xs, hc => by
    unfold RR at *
    obtain ⟨⟨h1, h2⟩, h3⟩ := hc
    exact ⟨⟨h1, CR.mono h ad _ _ h2⟩, RR.mono h ad sz _ _ h3⟩
theorem LR.mono (h : Ext B ρ own w ρ' own' w') : ∀ (as : List AV) (vs : List Value), LR ρ own w as vs → LR ρ' own' w' as vs
  | [], _, hv => by unfold LR at *; exact hv
  | a :: as, _, hv => by
    unfold LR at *
    obtain ⟨v, r, h1, h2, h3⟩ := hv
    exact ⟨v, r, h1, VR.mono h _ _ h2, LR.mono h _ _ h3⟩
end
end
end Go.Abs

set_option linter.unusedVariables false
namespace Go.Abs
open Go.RowKit

/-! ### Lists -/
section
variable {ρ : Nat → Option Nat} {own : Nat → Prop} {w : World}
theorem LR.length : ∀ {as : List AV} {vs : List Value}, LR ρ own w as vs → as.length = vs.length
  | [], _, h => by unfold LR at h; subst h; rfl
  | a :: as, _, h => by
    unfold LR at h
    obtain ⟨v, r, rfl, _, h2⟩ := h
    simp [LR.length h2]
theorem LR.get : ∀ {as : List AV} {vs : List Value}, LR ρ own w as vs → ∀ {i : Nat} {a : AV}, as[i]? = some a → ∃ v, vs[i]? = some v ∧ VR ρ own w a v
  | [], _, h, _, _, hi => by simp at hi
  | a :: as, _, h, i, x, hi => by
    unfold LR at h
    obtain ⟨v, r, rfl, h1, h2⟩ := h
    cases i with
    | zero => simp at hi; subst hi; exact ⟨v, rfl, h1⟩
    | succ i => simp at hi; simpa using LR.get h2 hi
theorem LR.of : ∀ {as : List AV} {vs : List Value}, as.length = vs.length → (∀ (i : Nat) (a : AV), as[i]? = some a → ∃ v, vs[i]? = some v ∧ VR ρ own w a v) → LR ρ own w as vs
  | [], vs, hl, _ => by unfold LR; exact List.eq_nil_of_length_eq_zero hl.symm
  | a :: as, [], hl, _ => by simp at hl
  | a :: as, v :: vs, hl, h => by
    unfold LR
    obtain ⟨v', h1, h2⟩ := h 0 a rfl
    simp at h1
    subst h1
    exact ⟨v, vs, rfl, h2, LR.of (by simpa using hl) fun i x hx => by simpa using h (i + 1) x (by simpa using hx)⟩
theorem LR.append {as bs : List AV} {vs us : List Value} (h : LR ρ own w as vs) (k : LR ρ own w bs us) : LR ρ own w (as ++ bs) (vs ++ us) := by
  have hl := h.length
  refine LR.of (by simp [hl, k.length]) fun i a hi => ?_
  by_cases hlt : i < as.length
  · rw [List.getElem?_append_left hlt] at hi
    obtain ⟨v, h1, h2⟩ := h.get hi
    exact ⟨v, by rw [List.getElem?_append_left (by omega)]; exact h1, h2⟩
  · rw [List.getElem?_append_right (by omega)] at hi
    obtain ⟨v, h1, h2⟩ := k.get hi
    exact ⟨v, by rw [List.getElem?_append_right (by omega), ← hl]; exact h1, h2⟩

/-- Cells that can be read at an address. -/
def Cells (ρ : Nat → Option Nat) (own : Nat → Prop) (w : World) (ad : Addr) (cs : List AV) : Prop :=
  ∀ (j : Nat) (x : AV), cs[j]? = some x → ∃ v, w.cell? (ad.add j) = some v ∧ VR ρ own w x v ∧ v.oneCell' = true
theorem CR.get : ∀ {ad : Addr} {i : Nat} {cs : List AV}, CR ρ own w ad i cs → ∀ {j : Nat} {x : AV}, cs[j]? = some x → ∃ v, w.cell? (ad.add (i + j)) = some v ∧ ¬ own ad.block ∧ VR ρ own w x v ∧ v.oneCell' = true
  | _, _, [], _, _, _, hj => by simp at hj
  | ad, i, c :: cs, h, j, x, hj => by
    unfold CR at h
    obtain ⟨h1, h2⟩ := h
    cases j with
    | zero => simp at hj; subst hj; exact h1
    | succ j =>
      simp at hj
      have := CR.get h2 hj
      rwa [show i + 1 + j = i + (j + 1) by omega] at this
theorem CR.of : ∀ {ad : Addr} {i : Nat} {cs : List AV}, (∀ (j : Nat) (x : AV), cs[j]? = some x → ∃ v, w.cell? (ad.add (i + j)) = some v ∧ ¬ own ad.block ∧ VR ρ own w x v ∧ v.oneCell' = true) → CR ρ own w ad i cs
  | _, _, [], _ => by unfold CR; trivial
  | ad, i, c :: cs, h => by
    unfold CR
    exact ⟨h 0 c rfl, CR.of fun j x hx => by have := h (j + 1) x (by simpa using hx); rwa [show i + (j + 1) = i + 1 + j by omega] at this⟩
theorem CR.drop {ad : Addr} {i k : Nat} {cs : List AV} (h : CR ρ own w ad i cs) : CR ρ own w (ad.add k) i (cs.drop k) := by
  refine CR.of fun j x hx => ?_
  rw [List.getElem?_drop] at hx
  have := h.get hx
  rw [add_add, add_block, show k + (i + j) = i + (k + j) by omega]
  exact this
theorem CR.shift {ad : Addr} {k : Nat} {cs : List AV} (h : CR ρ own w ad k cs) : CR ρ own w (ad.add k) 0 cs := by
  refine CR.of fun j x hx => ?_
  have := h.get hx
  rw [add_add, add_block, Nat.zero_add]
  exact this
theorem CR.cells {ad : Addr} {cs : List AV} (h : CR ρ own w ad 0 cs) : Cells ρ own w ad cs := fun j x hx => by
  obtain ⟨v, h1, _, h2⟩ := h.get hx
  exact ⟨v, by simpa using h1, h2⟩
theorem Cells.drop {ad : Addr} {k : Nat} {cs : List AV} (h : Cells ρ own w ad cs) : Cells ρ own w (ad.add k) (cs.drop k) := fun j x hx => by
  rw [List.getElem?_drop] at hx
  rw [add_add]
  exact h _ _ hx
theorem RR.get : ∀ {ad : Addr} {sz i : Nat} {xs : List (List AV)}, RR ρ own w ad sz i xs → ∀ {j : Nat} {x : List AV}, xs[j]? = some x → x.length = sz ∧ CR ρ own w ad ((i + j) * sz) x
  | _, _, _, [], _, _, _, hj => by simp at hj
  | ad, sz, i, c :: cs, h, j, x, hj => by
    unfold RR at h
    obtain ⟨h1, h2⟩ := h
    cases j with
    | zero => simp at hj; subst hj; exact h1
    | succ j =>
      simp at hj
      have := RR.get h2 hj
      rwa [show i + 1 + j = i + (j + 1) by omega] at this
theorem RR.of : ∀ {ad : Addr} {sz i : Nat} {xs : List (List AV)}, (∀ (j : Nat) (x : List AV), xs[j]? = some x → x.length = sz ∧ CR ρ own w ad ((i + j) * sz) x) → RR ρ own w ad sz i xs
  | _, _, _, [], _ => by unfold RR; trivial
  | ad, sz, i, c :: cs, h => by
    unfold RR
    exact ⟨h 0 c rfl, RR.of fun j x hx => by have := h (j + 1) x (by simpa using hx); rwa [show i + (j + 1) = i + 1 + j by omega] at this⟩
end

/-! ### The heap -/
def Blk.live : Blk → Prop
  | .cells ro _ _ => ro = false
  | .map .. => True
  | .dead => False

def roB : Blk → Bool
  | .cells r _ _ => r
  | _ => false
/-- Is a block only read? -/
def Blk.ro : Blk → Prop
  | .cells r _ _ => r = true
  | _ => False

/-- A block of the abstract heap stands for a block of memory. -/
def BR (ρ : Nat → Option Nat) (own : Nat → Prop) (w : World) (β : Nat) : Blk → Prop
  | .cells ro t cs => ∃ b n, ρ β = some b ∧ w.shape? b = some (t, n) ∧ cs.length ≤ n ∧
      (∀ (i : Nat) (x : AV), cs[i]? = some x → ∃ v, w.cell? ⟨b, i, none⟩ = some v ∧ VR ρ own w x v ∧ v.oneCell' = true) ∧
      (ro = false → own b ∧ ∀ i, i < n → w.frozen? ⟨b, i, none⟩ = false) ∧ True
  | .map _ _ es => ∃ (b : Nat) (ms : Array MapEntry) (clock : Nat), ρ β = some b ∧ w.heap[b]? = some (.map ms clock) ∧ own b ∧ ms.size = es.length ∧
      ∀ (i : Nat) (k v : AV), es[i]? = some (k, v) → ∃ e, ms[i]? = some e ∧ VR ρ own w k e.key ∧ VR ρ own w v e.val
  | .dead => True

structure HR (B : Nat) (ρ : Nat → Option Nat) (own : Nat → Prop) (w : World) (h : Heap) : Prop where
  blk : ∀ β, BR ρ own w β (h.at β)
  dom : ∀ β, h.length ≤ β → ρ β = none
  inj : ∀ β β' b, (h.at β).live → (h.at β').live → ρ β = some b → ρ β' = some b → β = β'
  ro : ∀ β b, ρ β = some b → (h.at β).ro → ¬ own b ∨ b < B
  own : ∀ b, own b → b < w.heap.size
  low : ∀ β b, (h.at β).live → ρ β = some b → B ≤ b
  base : B ≤ w.heap.size

theorem shape_cell {w : World} {b n : Nat} {t : TypeId} (h : w.shape? b = some (t, n)) (i : Nat) (hi : i < n) : (w.cell? ⟨b, i, none⟩).isSome = true := by
  unfold World.shape? at h
  unfold World.cell?
  split at h
  · rename_i c e fr hc
    simp at h
    obtain ⟨_, rfl⟩ := h
    simp [hc, hi]
  · simp at h
theorem shape_lt {w : World} {b : Nat} {s : TypeId × Nat} (h : w.shape? b = some s) : b < w.heap.size := by
  unfold World.shape? at h
  split at h
  · rename_i c e fr hc
    exact (Array.getElem?_eq_some_iff.1 hc).1
  · simp at h
theorem shape_of_block {w w' : World} {b : Nat} (h : w'.heap[b]? = w.heap[b]?) : w'.shape? b = w.shape? b := by unfold World.shape?; rw [h]

theorem BR.move {B : Nat} {ρ ρ' : Nat → Option Nat} {own own' : Nat → Prop} {w w' : World} {β : Nat} {k : Blk} (hE : Ext B ρ own w ρ' own' w')
    (hu : ∀ b, ρ β = some b → k.live → own b → w'.heap[b]? = w.heap[b]? ∧ own' b) (h : BR ρ own w β k) (hr : ∀ b, ρ β = some b → k.ro → ¬ own b ∨ b < B) : BR ρ' own' w' β k := by
  cases k with
  | dead => trivial
  | map kt et es =>
    obtain ⟨b, ms, clock, h1, h2, h3, h4, h5⟩ := h
    obtain ⟨k1, k2⟩ := hu b h1 trivial h3
    refine ⟨b, ms, clock, hE.ren _ _ h1, k1.trans h2, k2, h4, fun i k v hx => ?_⟩
    obtain ⟨e, e1, e2, e3⟩ := h5 i k v hx
    exact ⟨e, e1, VR.mono hE _ _ e2, VR.mono hE _ _ e3⟩
  | cells ro t cs =>
    obtain ⟨b, n, h1, h2, h3, h4, h5, h6⟩ := h
    have hb : w'.heap[b]? = w.heap[b]? ∧ (ro = false → own' b) := by
      cases ro with
      | false =>
        obtain ⟨k1, k2⟩ := hu b h1 rfl (h5 rfl).1
        exact ⟨k1, fun _ => k2⟩
      | true =>
        rcases hr b h1 rfl with hn | hn
        · exact ⟨(hE.keep b (shape_lt h2) hn).1, fun h => by cases h⟩
        · exact ⟨hE.low b hn, fun h => by cases h⟩
    refine ⟨b, n, hE.ren _ _ h1, hE.shape _ _ h2, h3, fun i x hx => ?_, fun hr => ⟨hb.2 hr, fun i hi => ?_⟩, trivial⟩
    · obtain ⟨v, k1, k2, k3⟩ := h4 i x hx
      refine ⟨v, ?_, VR.mono hE _ _ k2, k3⟩
      rw [World.cell?_of_block hb.1]
      exact k1
    · rw [World.frozen?_of_block hb.1]
      exact (h5 hr).2 i hi

/-- Where all blocks stand as they stood. -/
theorem BR.move' {B : Nat} {ρ : Nat → Option Nat} {own own' : Nat → Prop} {w w' : World} {β : Nat} {k : Blk} (hb : ∀ b, b < w.heap.size → w'.heap[b]? = w.heap[b]?) (hE : Ext B ρ own w ρ own' w')
    (hu : ∀ b, ρ β = some b → k.live → own b → own' b) (h : BR ρ own w β k) : BR ρ own' w' β k := by
  cases k with
  | dead => trivial
  | map kt et es =>
    obtain ⟨b, ms, clock, h1, h2, h3, h4, h5⟩ := h
    refine ⟨b, ms, clock, h1, (hb b (Array.getElem?_eq_some_iff.1 h2).1).trans h2, hu b h1 trivial h3, h4, fun i k v hx => ?_⟩
    obtain ⟨e, e1, e2, e3⟩ := h5 i k v hx
    exact ⟨e, e1, VR.mono hE _ _ e2, VR.mono hE _ _ e3⟩
  | cells ro t cs =>
    obtain ⟨b, n, h1, h2, h3, h4, h5, h6⟩ := h
    have hbb := hb b (shape_lt h2)
    refine ⟨b, n, h1, hE.shape _ _ h2, h3, fun i x hx => ?_, fun hr => ⟨hu b h1 hr (h5 hr).1, fun i hi => ?_⟩, trivial⟩
    · obtain ⟨v, k1, k2, k3⟩ := h4 i x hx
      refine ⟨v, ?_, VR.mono hE _ _ k2, k3⟩
      rw [World.cell?_of_block hbb]
      exact k1
    · rw [World.frozen?_of_block hbb]
      exact (h5 hr).2 i hi

theorem at_append_lt {h : Heap} {k : Blk} {β : Nat} (hβ : β < h.length) : Heap.at (h ++ [k]) β = h.at β := by simp [Heap.at, List.getD_eq_getElem?_getD, List.getElem?_append_left hβ]
theorem at_append_new {h : Heap} {k : Blk} : Heap.at (h ++ [k]) h.length = k := by simp [Heap.at, List.getD_eq_getElem?_getD]
theorem at_ge {h : Heap} {β : Nat} (hβ : h.length ≤ β) : h.at β = .dead := by simp [Heap.at, List.getD_eq_getElem?_getD, List.getElem?_eq_none hβ]
theorem at_set_same {h : Heap} {k : Blk} {β : Nat} (hβ : β < h.length) : Heap.at (h.set β k) β = k := by simp [Heap.at, List.getD_eq_getElem?_getD, hβ]
theorem at_set_other {h : Heap} {k : Blk} {β β' : Nat} (hβ : β ≠ β') : Heap.at (h.set β k) β' = h.at β' := by simp [Heap.at, List.getD_eq_getElem?_getD, List.getElem?_set_ne hβ]
theorem lt_of_at {h : Heap} {β : Nat} (hk : h.at β ≠ .dead) : β < h.length := by
  rcases Nat.lt_or_ge β h.length with h1 | h1
  · exact h1
  · exact absurd (at_ge h1) hk

def renNew (ρ : Nat → Option Nat) (β b : Nat) : Nat → Option Nat := fun x => if x = β then some b else ρ x
def ownNew (own : Nat → Prop) (b : Nat) : Nat → Prop := fun x => own x ∨ x = b

theorem heap_alloc_lt (w : World) (o : Obj) (k : Nat) (h : k < w.heap.size) : (w.alloc o).heap[k]? = w.heap[k]? := Below.heap_alloc _ _ _ h

theorem heap_alloc_new (w : World) (o : Obj) : (w.alloc o).heap[w.heap.size]? = some o := by
  show (w.heap.push o)[w.heap.size]? = some o
  simp
theorem shape_of_heap {w : World} {b : Nat} {c : Array Value} {t : TypeId} {fr : Nat × Nat} (h : w.heap[b]? = some (.cells c t fr)) : w.shape? b = some (t, c.size) := by
  unfold World.shape?; rw [h]
theorem cell_of_heap {w : World} {b : Nat} {c : Array Value} {t : TypeId} {fr : Nat × Nat} (h : w.heap[b]? = some (.cells c t fr)) (i : Nat) : w.cell? ⟨b, i, none⟩ = c[i]? := by
  unfold World.cell?; rw [h]; rfl
theorem frozen_of_heap {w : World} {b : Nat} {c : Array Value} {t : TypeId} {fr : Nat × Nat} (h : w.heap[b]? = some (.cells c t fr)) (hfr : fr.2 ≤ fr.1 ∨ c.size ≤ fr.1) {i : Nat} (hi : i < c.size) : w.frozen? ⟨b, i, none⟩ = false := by
  unfold World.frozen?
  rw [h]
  obtain ⟨lo, hi'⟩ := fr
  simp only [Bool.and_eq_false_iff, decide_eq_false_iff_not]
  simp only at hfr
  omega

theorem br_lt {ρ : Nat → Option Nat} {own : Nat → Prop} {w : World} {β b : Nat} {k : Blk} (hb : BR ρ own w β k) (l : k.live) (hr : ρ β = some b) : b < w.heap.size := by
  cases k with
  | dead => exact l.elim
  | map kt et es =>
    obtain ⟨b', ms, clock, h1, h2, _⟩ := hb
    rw [h1] at hr
    cases hr
    exact (Array.getElem?_eq_some_iff.1 h2).1
  | cells ro t cs =>
    obtain ⟨b', n, h1, h2, _⟩ := hb
    rw [h1] at hr
    cases hr
    exact shape_lt h2
theorem ro_lt {ρ : Nat → Option Nat} {own : Nat → Prop} {w : World} {β b : Nat} {k : Blk} (hb : BR ρ own w β k) (l : k.ro) (hr : ρ β = some b) : b < w.heap.size := by
  cases k with
  | dead => exact l.elim
  | map => exact l.elim
  | cells ro t cs =>
    obtain ⟨b', n, h1, h2, _⟩ := hb
    rw [h1] at hr
    cases hr
    exact shape_lt h2
theorem ro_set {B : Nat} {ρ : Nat → Option Nat} {own : Nat → Prop} {w : World} {h : Heap} (H : HR B ρ own w h) {β : Nat} {k : Blk} (hk : roB k = false) :
    ∀ β' b, ρ β' = some b → (Heap.at (h.set β k) β').ro → ¬ own b ∨ b < B := by
  intro β' b hr hro
  by_cases e : β = β'
  · subst e
    by_cases hlt : β < h.length
    · rw [at_set_same hlt] at hro
      cases k with
      | cells r t cs => simp only [roB] at hk; subst hk; cases hro
      | _ => exact hro.elim
    · rw [List.set_eq_of_length_le (by omega)] at hro
      exact H.ro β b hr hro
  · rw [at_set_other e] at hro
    exact H.ro β' b hr hro
theorem ro_append {B : Nat} {ρ : Nat → Option Nat} {own : Nat → Prop} {w : World} {h : Heap} (H : HR B ρ own w h) {k : Blk} (hk : roB k = false) :
    ∀ β b, renNew ρ h.length w.heap.size β = some b → (Heap.at (h ++ [k]) β).ro → ¬ ownNew own w.heap.size b ∨ b < B := by
  intro β b hr hro
  rcases Nat.lt_trichotomy β h.length with hβ | hβ | hβ
  · rw [at_append_lt hβ] at hro
    unfold renNew at hr
    rw [if_neg (by omega)] at hr
    have hlt := ro_lt (H.blk β) hro hr
    rcases H.ro β b hr hro with h1 | h1
    · left
      rintro (h2 | h2)
      · exact h1 h2
      · omega
    · exact .inr h1
  · subst hβ
    rw [at_append_new] at hro
    cases k with
    | cells r t cs => simp only [roB] at hk; subst hk; cases hro
    | _ => exact hro.elim
  · rw [at_ge (by simp; omega)] at hro
    exact hro.elim

/-- A new block. -/
theorem ext_alloc {B : Nat} {ρ : Nat → Option Nat} {own : Nat → Prop} {w : World} {h : Heap} (H : HR B ρ own w h) (o : Obj) :
    Ext B ρ own w (renNew ρ h.length w.heap.size) (ownNew own w.heap.size) (w.alloc o) where
  os := rfl
  tape := rfl
  output := rfl
  size := by simp
  ren := fun β b hb => by
    unfold renNew
    split
    · rename_i e
      subst e
      rw [H.dom _ (Nat.le_refl _)] at hb
      cases hb
    · exact hb
  keep := fun b hb ho => ⟨heap_alloc_lt _ _ _ hb, fun e => e.elim ho (by omega)⟩
  shape := fun b s hs => by rw [shape_of_block (heap_alloc_lt _ _ _ (shape_lt hs))]; exact hs
  low := fun b hb => heap_alloc_lt _ _ _ (Nat.lt_of_lt_of_le hb H.base)
  grow := fun b hb => .inl hb

theorem hr_alloc {B : Nat} {ρ : Nat → Option Nat} {own : Nat → Prop} {w : World} {h : Heap} (H : HR B ρ own w h) (c : Array Value) (t : TypeId) (fr : Nat × Nat) (cs : List AV)
    (hfr : fr.2 ≤ fr.1 ∨ c.size ≤ fr.1) (hl : cs.length ≤ c.size) (hc : ∀ (i : Nat) (x : AV), cs[i]? = some x → ∃ v, c[i]? = some v ∧ VR ρ own w x v ∧ v.oneCell' = true) :
    HR B (renNew ρ h.length w.heap.size) (ownNew own w.heap.size) (w.alloc (.cells c t fr)) (h ++ [.cells false t cs]) := by
  have hE := ext_alloc H (.cells c t fr)
  have hnew := heap_alloc_new w (.cells c t fr)
  refine ⟨fun β => ?_, fun β hβ => ?_, fun β β' b l1 l2 r1 r2 => ?_, ro_append H rfl, fun b hb => ?_, fun β b l r => ?_, ?_⟩
  · rcases Nat.lt_trichotomy β h.length with hβ | hβ | hβ
    · rw [at_append_lt hβ]
      refine (H.blk β).move hE (fun b hb _ ho => ?_) (H.ro β)
      exact ⟨heap_alloc_lt _ _ _ (H.own b ho), .inl ho⟩
    · subst hβ
      rw [at_append_new]
      refine ⟨w.heap.size, c.size, by simp [renNew], shape_of_heap hnew, hl, fun i x hx => ?_, fun _ => ⟨.inr rfl, fun i hi => ?_⟩, trivial⟩
      · obtain ⟨v, h1, h2, h3⟩ := hc i x hx
        exact ⟨v, (cell_of_heap hnew i).trans h1, VR.mono hE _ _ h2, h3⟩
      · exact frozen_of_heap hnew hfr hi
    · rw [at_ge (by simp; omega)]
      trivial
  · simp at hβ
    unfold renNew
    rw [if_neg (by omega)]
    exact H.dom β (by omega)
  · unfold renNew at r1 r2
    have key : ∀ β b, (Heap.at (h ++ [.cells false t cs]) β).live → β ≠ h.length → ρ β = some b → b < w.heap.size ∧ (h.at β).live := by
      intro β b l hne hr
      have hβ : β < h.length := by
        rcases Nat.lt_or_ge β h.length with h1 | h1
        · exact h1
        · rw [H.dom β h1] at hr; cases hr
      rw [at_append_lt hβ] at l
      refine ⟨?_, l⟩
      have := H.blk β
      exact br_lt this l hr
    by_cases e1 : β = h.length <;> by_cases e2 : β' = h.length
    · rw [e1, e2]
    · rw [if_pos e1] at r1
      rw [if_neg e2] at r2
      cases r1
      have := (key β' _ l2 e2 r2).1
      omega
    · rw [if_neg e1] at r1
      rw [if_pos e2] at r2
      cases r2
      have := (key β _ l1 e1 r1).1
      omega
    · rw [if_neg e1] at r1
      rw [if_neg e2] at r2
      exact H.inj β β' b (key β b l1 e1 r1).2 (key β' b l2 e2 r2).2 r1 r2
  · rcases hb with hb | rfl
    · have := H.own b hb
      simp; omega
    · simp
  · unfold renNew at r
    by_cases e : β = h.length
    · rw [if_pos e] at r
      cases r
      exact H.base
    · rw [if_neg e] at r
      have hβ : β < h.length := by
        rcases Nat.lt_or_ge β h.length with h1 | h1
        · exact h1
        · rw [H.dom β h1] at r; cases r
      rw [at_append_lt hβ] at l
      exact H.low β b l r
  · have := H.base
    simp
    omega

end Go.Abs

set_option linter.unusedVariables false
namespace Go.Abs
open Go.RowKit

theorem setCells_nil (cs : List AV) (off : Nat) : setCells cs off [] = cs := by cases cs <;> rfl
theorem setCells_none (off : Nat) (vs : List AV) : setCells [] off vs = [] := by cases vs <;> rfl
theorem setCells_cons : ∀ (cs : List AV) (off : Nat) (v : AV) (vs : List AV), setCells cs off (v :: vs) = setCells (cs.set off v) (off + 1) vs
  | [], off, v, vs => by rw [List.set_nil, setCells_none, setCells_none]
  | c :: cs, 0, v, vs => by
    cases vs with
    | nil => simp [setCells, setCells_nil]
    | cons w ws => simp [setCells]
  | c :: cs, n + 1, v, vs => by
    have ih := setCells_cons cs n v vs
    cases vs with
    | nil => simp only [setCells, List.set_cons_succ]; rw [ih, setCells_nil]
    | cons w ws => simp only [setCells, List.set_cons_succ]; rw [ih]
theorem setCells_length : ∀ (as : List AV) (cs : List AV) (off : Nat), (setCells cs off as).length = cs.length
  | [], _, _ => by rw [setCells_nil]
  | a :: as, cs, off => by rw [setCells_cons, setCells_length as]; simp
theorem setCells_get : ∀ (as : List AV) (cs : List AV) (off : Nat) (i : Nat), off + as.length ≤ cs.length → (setCells cs off as)[i]? = if off ≤ i ∧ i < off + as.length then as[i - off]? else cs[i]?
  | [], cs, off, i, _ => by simp [setCells_nil]; omega
  | a :: as, cs, off, i, h => by
    simp only [List.length_cons] at h
    rw [setCells_cons, setCells_get as (cs.set off a) (off + 1) i (by simp; omega)]
    simp only [List.length_cons]
    by_cases h1 : off + 1 ≤ i ∧ i < off + 1 + as.length
    · rw [if_pos h1, if_pos (by omega), show i - off = (i - (off + 1)) + 1 by omega, List.getElem?_cons_succ]
    · rw [if_neg h1]
      by_cases h2 : i = off
      · subst h2
        rw [if_pos (by omega), Nat.sub_self, List.getElem?_cons_zero, List.getElem?_set_self (by omega)]
      · rw [if_neg (by omega), List.getElem?_set_ne (by omega)]

theorem setCells_heap (b : Nat) (k : Nat) (hk : k ≠ b) : ∀ (vs : List Value) (o : Nat) (w : World), (w.setCells b o vs).heap[k]? = w.heap[k]?
  | [], _, _ => rfl
  | v :: vs, o, w => by
    rw [World.setCells, setCells_heap b k hk vs]
    exact Below.heap_setCell _ _ _ _ hk
theorem shape_setCell (w : World) (a : Addr) (v : Value) (b : Nat) : (w.setCell a v).shape? b = w.shape? b := by
  unfold World.shape? World.setCell
  simp only [Array.getElem?_modify]
  by_cases h : a.block = b
  · rw [if_pos h]
    cases hb : w.heap[b]? with
    | none => rfl
    | some o =>
      cases o <;> simp
      split <;> simp
  · rw [if_neg h]
theorem setCells_shape (b k : Nat) : ∀ (vs : List Value) (o : Nat) (w : World), (w.setCells b o vs).shape? k = w.shape? k
  | [], _, _ => rfl
  | v :: vs, o, w => by rw [World.setCells, setCells_shape b k vs, shape_setCell]
theorem setCells_plain (b : Nat) : ∀ (vs : List Value) (o : Nat) (w : World), (w.setCells b o vs).os = w.os ∧ (w.setCells b o vs).tape = w.tape ∧ (w.setCells b o vs).output = w.output ∧ (w.setCells b o vs).heap.size = w.heap.size
  | [], _, _ => ⟨rfl, rfl, rfl, rfl⟩
  | v :: vs, o, w => by
    rw [World.setCells]
    obtain ⟨h1, h2, h3, h4⟩ := setCells_plain b vs (o + 1) (w.setCell ⟨b, o, none⟩ v)
    exact ⟨h1, h2, h3, h4.trans (World.size_setCell ..)⟩

theorem ext_setCells {B : Nat} {ρ : Nat → Option Nat} {own : Nat → Prop} {w : World} {b : Nat} (hb : own b) (hB : B ≤ b) (o : Nat) (vs : List Value) : Ext B ρ own w ρ own (w.setCells b o vs) where
  os := (setCells_plain b vs o w).1
  tape := (setCells_plain b vs o w).2.1
  output := (setCells_plain b vs o w).2.2.1
  size := by rw [(setCells_plain b vs o w).2.2.2]; exact Nat.le_refl _
  ren := fun _ _ h => h
  keep := fun k _ ho => ⟨setCells_heap b k (fun e => ho (e ▸ hb)) vs o w, ho⟩
  shape := fun k s hs => by rw [setCells_shape]; exact hs
  low := fun k hk => setCells_heap b k (by omega) vs o w
  grow := fun _ h => h

/-- Cells of a block of its own are written. -/
theorem hr_setCells {B : Nat} {ρ : Nat → Option Nat} {own : Nat → Prop} {w : World} {h : Heap} (H : HR B ρ own w h) {β b off : Nat} {t : TypeId} {cs as : List AV} {vs : List Value}
    (hβ : h.at β = .cells false t cs) (hρ : ρ β = some b) (hv : LR ρ own w as vs) (h1 : ∀ v ∈ vs, v.oneCell' = true) (ho : off + as.length ≤ cs.length) :
    HR B ρ own (w.setCells b off vs) (h.set β (.cells false t (setCells cs off as))) ∧ Ext B ρ own w ρ own (w.setCells b off vs) ∧ w.there b off vs.length := by
  have hb := H.blk β
  rw [hβ] at hb
  obtain ⟨b', n, r1, r2, r3, r4, r5, r6⟩ := hb
  rw [hρ] at r1
  cases r1
  obtain ⟨hown, hfr⟩ := r5 rfl
  have hlow : B ≤ b := H.low β b (by rw [hβ]; rfl) hρ
  have hE := ext_setCells (ρ := ρ) (w := w) hown hlow off vs
  have hl := hv.length
  have hlt : β < h.length := lt_of_at (by rw [hβ]; intro e; cases e)
  have hthere : w.there b off vs.length := fun j hj => ⟨shape_cell r2 _ (by omega), hfr _ (by omega)⟩
  refine ⟨⟨fun β' => ?_, fun β' hβ' => ?_, fun β1 β2 b' l1 l2 q1 q2 => ?_, ro_set H rfl, fun b' hb' => ?_, fun β' b' l q => ?_, ?_⟩, hE, hthere⟩
  · by_cases e : β = β'
    · subst e
      rw [at_set_same hlt]
      refine ⟨b, n, hρ, by rw [setCells_shape]; exact r2, by rw [setCells_length]; exact r3, fun i x hx => ?_, fun _ => ⟨hown, fun i hi => by rw [World.frozen?_setCells]; exact hfr i hi⟩, trivial⟩
      rw [setCells_get _ _ _ _ ho] at hx
      split at hx
      · rename_i hi
        obtain ⟨v, k1, k2⟩ := hv.get hx
        have hlt' : i - off < vs.length := by omega
        refine ⟨v, ?_, VR.mono hE _ _ k2, h1 v (List.mem_of_getElem? k1)⟩
        have := World.cell?_setCells_in b vs off w (fun j hj => (hthere j hj).1) (i - off) hlt'
        rw [show off + (i - off) = i by omega] at this
        rw [this, ← k1, List.getElem?_eq_getElem hlt']
      · rename_i hi
        obtain ⟨v, k1, k2, k3⟩ := r4 i x hx
        refine ⟨v, ?_, VR.mono hE _ _ k2, k3⟩
        rw [World.cell?_setCells_out b vs off w ⟨b, i, none⟩ (fun _ _ => by show i < off ∨ off + vs.length ≤ i; omega)]
        exact k1
    · rw [at_set_other e]
      refine (H.blk β').move hE (fun b' q l ho' => ?_) (H.ro β')
      have hne : b' ≠ b := fun hbb => e (H.inj β β' b (by rw [hβ]; rfl) l hρ (hbb ▸ q))
      exact ⟨setCells_heap b b' hne vs off w, ho'⟩
  · exact H.dom β' (by simpa using hβ')
  · have key : ∀ β', (Heap.at (h.set β (.cells false t (setCells cs off as))) β').live → (h.at β').live := by
      intro β' l
      by_cases e : β = β'
      · subst e; rw [hβ]; rfl
      · rwa [at_set_other e] at l
    exact H.inj β1 β2 b' (key _ l1) (key _ l2) q1 q2
  · rw [(setCells_plain b vs off w).2.2.2]; exact H.own b' hb'
  · have key : (h.at β').live := by
      by_cases e : β = β'
      · subst e; rw [hβ]; rfl
      · rwa [at_set_other e] at l
    exact H.low β' b' key q
  · rw [(setCells_plain b vs off w).2.2.2]; exact H.base

/-- A draw turns nothing. -/
theorem ext_drew {B : Nat} (ρ : Nat → Option Nat) (own : Nat → Prop) (w : World) : Ext B ρ own w ρ own w.drew :=
  ⟨rfl, rfl, rfl, Nat.le_refl _, fun _ _ h => h, fun _ _ h => ⟨rfl, h⟩, fun _ _ h => h, fun _ _ => rfl, fun _ h => h⟩
/-- Where all blocks stand, the heap's relation stands. -/
theorem HR.still {B : Nat} {ρ : Nat → Option Nat} {own : Nat → Prop} {w w' : World} {h : Heap} (H : HR B ρ own w h) {B' : Nat} (hE : Ext B' ρ own w ρ own w') (hb : ∀ b, b < w.heap.size → w'.heap[b]? = w.heap[b]?) : HR B ρ own w' h :=
  ⟨fun β => (H.blk β).move' (fun b hb' => hb b hb') hE (fun b _ _ ho => ho) , H.dom, H.inj, H.ro, fun b ho => Nat.lt_of_lt_of_le (H.own b ho) hE.size, H.low, Nat.le_trans H.base hE.size⟩
theorem HR.drew {B : Nat} {ρ : Nat → Option Nat} {own : Nat → Prop} {w : World} {h : Heap} (H : HR B ρ own w h) : HR B ρ own w.drew h := H.still (ext_drew (B := B) _ _ _) fun _ _ => rfl

/-- A block is dropped from sight: what it was made of stands fast from now on. -/
theorem HR.drop {B : Nat} {ρ : Nat → Option Nat} {own : Nat → Prop} {w : World} {h : Heap} (H : HR B ρ own w h) (β : Nat) : HR B ρ own w (h.set β .dead) := by
  refine ⟨fun β' => ?_, fun β' hβ' => H.dom β' (by simpa using hβ'), fun β1 β2 b l1 l2 q1 q2 => ?_, ro_set H rfl, H.own, fun β' b l q => ?_, H.base⟩
  · by_cases e : β = β'
    · subst e
      by_cases hlt : β < h.length
      · rw [at_set_same hlt]; trivial
      · rw [List.set_eq_of_length_le (by omega)]; exact H.blk β
    · rw [at_set_other e]; exact H.blk β'
  · have key : ∀ β', (Heap.at (h.set β .dead) β').live → (h.at β').live := by
      intro β' l
      by_cases e : β = β'
      · subst e
        by_cases hlt : β < h.length
        · rw [at_set_same hlt] at l; exact l.elim
        · rw [List.set_eq_of_length_le (by omega)] at l; exact l
      · rwa [at_set_other e] at l
    exact H.inj β1 β2 b (key _ l1) (key _ l2) q1 q2
  · have key : (h.at β').live := by
      by_cases e : β = β'
      · subst e
        by_cases hlt : β < h.length
        · rw [at_set_same hlt] at l; exact l.elim
        · rw [List.set_eq_of_length_le (by omega)] at l; exact l
      · rwa [at_set_other e] at l
    exact H.low β' b key q
/-- An append in place: the row goes on in the same block, under a new name. -/
theorem hr_grow {B : Nat} {ρ : Nat → Option Nat} {own : Nat → Prop} {w : World} {h : Heap} (H : HR B ρ own w h) {β b n : Nat} {t : TypeId} {cs as : List AV} {vs : List Value}
    (hβ : h.at β = .cells false t cs) (hρ : ρ β = some b) (hn : w.shape? b = some (t, n)) (hv : LR ρ own w as vs) (h1 : ∀ v ∈ vs, v.oneCell' = true) (ho : cs.length + as.length ≤ n) :
    HR B (renNew ρ h.length b) own (w.setCells b cs.length vs) (h.set β .dead ++ [.cells false t (cs ++ as)]) ∧ Ext B ρ own w (renNew ρ h.length b) own (w.setCells b cs.length vs) ∧ w.there b cs.length vs.length := by
  have hb := H.blk β
  rw [hβ] at hb
  obtain ⟨b', n', r1, r2, r3, r4, r5, r6⟩ := hb
  rw [hρ] at r1
  cases r1
  rw [hn] at r2
  cases r2
  obtain ⟨hown, hfr⟩ := r5 rfl
  have hl := hv.length
  have hlt : β < h.length := lt_of_at (by rw [hβ]; intro e; cases e)
  have hthere : w.there b cs.length vs.length := fun j hj => ⟨shape_cell hn _ (by omega), hfr _ (by omega)⟩
  have hlow : B ≤ b := H.low β b (by rw [hβ]; rfl) hρ
  have hE0 := ext_setCells (ρ := ρ) (w := w) hown hlow cs.length vs
  have hE : Ext B ρ own w (renNew ρ h.length b) own (w.setCells b cs.length vs) := { hE0 with
    ren := fun x y hxy => by
      unfold renNew
      split
      · rename_i e
        subst e
        rw [H.dom _ (Nat.le_refl _)] at hxy
        cases hxy
      · exact hxy }
  have hlen : (h.set β Blk.dead).length = h.length := by simp
  have old : ∀ β', β' < h.length → β' ≠ β → Heap.at (h.set β .dead ++ [.cells false t (cs ++ as)]) β' = h.at β' := fun β' h1 h2 => by
    rw [at_append_lt (by rw [hlen]; exact h1), at_set_other (fun e => h2 e.symm)]
  have oldβ : Heap.at (h.set β .dead ++ [.cells false t (cs ++ as)]) β = .dead := by
    rw [at_append_lt (by rw [hlen]; exact hlt), at_set_same hlt]
  have new : Heap.at (h.set β .dead ++ [.cells false t (cs ++ as)]) h.length = .cells false t (cs ++ as) := by
    have := at_append_new (h := h.set β .dead) (k := .cells false t (cs ++ as))
    rwa [hlen] at this
  have key : ∀ β' b', (Heap.at (h.set β .dead ++ [.cells false t (cs ++ as)]) β').live → β' ≠ h.length → renNew ρ h.length b β' = some b' → (h.at β').live ∧ ρ β' = some b' ∧ β' ≠ β := by
    intro β' b' l hne hr
    unfold renNew at hr
    rw [if_neg hne] at hr
    have hlt' : β' < h.length := by
      rcases Nat.lt_or_ge β' h.length with h1 | h1
      · exact h1
      · rw [H.dom β' h1] at hr; cases hr
    by_cases e : β' = β
    · subst e
      rw [oldβ] at l
      exact l.elim
    · rw [old β' hlt' e] at l
      exact ⟨l, hr, e⟩
  have hro : ∀ β' b', renNew ρ h.length b β' = some b' → (Heap.at (h.set β .dead ++ [.cells false t (cs ++ as)]) β').ro → ¬ own b' ∨ b' < B := by
    intro β' b' hr hro
    rcases Nat.lt_trichotomy β' h.length with hc | hc | hc
    · by_cases e : β' = β
      · subst e
        rw [oldβ] at hro
        exact hro.elim
      · rw [old β' hc e] at hro
        unfold renNew at hr
        rw [if_neg (by omega)] at hr
        exact H.ro β' b' hr hro
    · subst hc
      rw [new] at hro
      cases hro
    · rw [at_ge (by simp; omega)] at hro
      exact hro.elim
  refine ⟨⟨fun β' => ?_, fun β' hβ' => ?_, fun β1 β2 b' l1 l2 q1 q2 => ?_, hro, fun b' hb' => ?_, fun β' b' l q => ?_, ?_⟩, hE, hthere⟩
  · rcases Nat.lt_trichotomy β' h.length with hc | hc | hc
    · by_cases e : β' = β
      · subst e
        rw [oldβ]
        trivial
      · rw [old β' hc e]
        refine (H.blk β').move hE (fun b' q l ho' => ?_) (H.ro β')
        have hne : b' ≠ b := fun hbb => e (H.inj β' β b l (by rw [hβ]; rfl) (hbb ▸ q) hρ)
        exact ⟨setCells_heap b b' hne vs _ w, ho'⟩
    · subst hc
      rw [new]
      refine ⟨b, n, by simp [renNew], by rw [setCells_shape]; exact hn, by simp; omega, fun i x hx => ?_, fun _ => ⟨hown, fun i hi => by rw [World.frozen?_setCells]; exact hfr i hi⟩, trivial⟩
      by_cases hi : i < cs.length
      · rw [List.getElem?_append_left hi] at hx
        obtain ⟨v, k1, k2, k3⟩ := r4 i x hx
        refine ⟨v, ?_, VR.mono hE _ _ k2, k3⟩
        rw [World.cell?_setCells_out b vs cs.length w ⟨b, i, none⟩ (fun _ _ => .inl hi)]
        exact k1
      · rw [List.getElem?_append_right (by omega)] at hx
        obtain ⟨v, k1, k2⟩ := hv.get hx
        have hlt' : i - cs.length < vs.length := (List.getElem?_eq_some_iff.1 k1).1
        refine ⟨v, ?_, VR.mono hE _ _ k2, h1 v (List.mem_of_getElem? k1)⟩
        have := World.cell?_setCells_in b vs cs.length w (fun j hj => (hthere j hj).1) (i - cs.length) hlt'
        rw [show cs.length + (i - cs.length) = i by omega] at this
        rw [this, ← k1, List.getElem?_eq_getElem hlt']
    · rw [at_ge (by simp; omega)]
      trivial
  · simp at hβ'
    unfold renNew
    rw [if_neg (by omega)]
    exact H.dom β' (by omega)
  · by_cases e1 : β1 = h.length <;> by_cases e2 : β2 = h.length
    · rw [e1, e2]
    · obtain ⟨k1, k2, k3⟩ := key β2 b' l2 e2 q2
      subst e1
      simp [renNew] at q1
      subst q1
      exact absurd (H.inj β2 β b k1 (by rw [hβ]; rfl) k2 hρ) k3
    · obtain ⟨k1, k2, k3⟩ := key β1 b' l1 e1 q1
      subst e2
      simp [renNew] at q2
      subst q2
      exact absurd (H.inj β1 β b k1 (by rw [hβ]; rfl) k2 hρ) k3
    · obtain ⟨k1, k2, _⟩ := key β1 b' l1 e1 q1
      obtain ⟨k3, k4, _⟩ := key β2 b' l2 e2 q2
      exact H.inj β1 β2 b' k1 k3 k2 k4
  · rw [(setCells_plain b vs _ w).2.2.2]; exact H.own b' hb'
  · by_cases e1 : β' = h.length
    · subst e1
      simp [renNew] at q
      subst q
      exact hlow
    · obtain ⟨k1, k2, _⟩ := key β' b' l e1 q
      exact H.low β' b' k1 k2
  · rw [(setCells_plain b vs _ w).2.2.2]; exact H.base
section
variable {B : Nat} {ρ : Nat → Option Nat} {own : Nat → Prop} {w w' : World} {h : Heap}
/-- One block of one's own is turned. -/
theorem hr_turn (H : HR B ρ own w h) {β b : Nat} {k : Blk} (hl : (h.at β).live) (hρ : ρ β = some b) (hown : own b) (hos : w'.os = w.os) (htp : w'.tape = w.tape) (hout : w'.output = w.output) (hsz : w'.heap.size = w.heap.size)
    (hoth : ∀ k, k ≠ b → w'.heap[k]? = w.heap[k]?) (hsh : ∀ s, w.shape? b = some s → w'.shape? b = some s) (hk : Ext B ρ own w ρ own w' → BR ρ own w' β k) (hkr : roB k = false := by rfl) :
    HR B ρ own w' (h.set β k) ∧ Ext B ρ own w ρ own w' := by
  have hlow : B ≤ b := H.low β b hl hρ
  have hE : Ext B ρ own w ρ own w' := ⟨hos, htp, hout, by omega, fun _ _ h => h, fun k _ ho => ⟨hoth k fun e => ho (e ▸ hown), ho⟩,
    fun k s hs => by
      by_cases e : k = b
      · subst e; exact hsh s hs
      · rw [shape_of_block (hoth k e)]; exact hs,
    fun k hk => hoth k (by omega), fun _ h => h⟩
  have hlt : β < h.length := lt_of_at (by intro e; rw [e] at hl; exact hl)
  refine ⟨⟨fun β' => ?_, fun β' hβ' => H.dom β' (by simpa using hβ'), fun β1 β2 b' l1 l2 q1 q2 => ?_, ro_set H hkr, fun b' hb' => by rw [hsz]; exact H.own b' hb', fun β' b' l q => ?_, by rw [hsz]; exact H.base⟩, hE⟩
  · by_cases e : β = β'
    · subst e
      rw [at_set_same hlt]
      exact hk hE
    · rw [at_set_other e]
      exact (H.blk β').move hE (fun b' q l ho' => ⟨hoth b' fun hbb => e (H.inj β β' b hl l hρ (hbb ▸ q)), ho'⟩) (H.ro β')
  · have key : ∀ β', (Heap.at (h.set β k) β').live → (h.at β').live := by
      intro β' l
      by_cases e : β = β'
      · subst e; exact hl
      · rwa [at_set_other e] at l
    exact H.inj β1 β2 b' (key _ l1) (key _ l2) q1 q2
  · have key : (h.at β').live := by
      by_cases e : β = β'
      · subst e; exact hl
      · rwa [at_set_other e] at l
    exact H.low β' b' key q

/-- A row is seen up to a place alone. -/
theorem hr_trim (H : HR B ρ own w h) {β : Nat} {t : TypeId} {cs : List AV} (hβ : h.at β = .cells false t cs) (k : Nat) : HR B ρ own w (h.set β (.cells false t (cs.take k))) := by
  have hb := H.blk β
  rw [hβ] at hb
  obtain ⟨b, n, r1, r2, r3, r4, r5, r6⟩ := hb
  refine (hr_turn (w' := w) H (by rw [hβ]; rfl) r1 (r5 rfl).1 rfl rfl rfl rfl (fun _ _ => rfl) (fun _ h => h) fun _ => ?_).1
  refine ⟨b, n, r1, r2, by simp; omega, fun i x hx => ?_, r5, r6⟩
  rw [List.getElem?_take] at hx
  split at hx
  · exact r4 i x hx
  · cases hx
end
end Go.Abs

set_option linter.unusedVariables false
namespace Go.Abs
open Go.RowKit

/-- Is a type's description the one that the table tells? -/
def descOk : TypeDesc → TD → Bool
  | .bool, .bool => true
  | .int k, .int k' => decide (k = k')
  | .string, .str => true
  | .pointer e, .ptr e' => Nat.beq e e'
  | .slice e, .slice e' => Nat.beq e e'
  | .array n e, .arr n' e' => Nat.beq n n' && Nat.beq e e'
  | .struct fs, .struct gs => decide (fs.toList.map (fun f => (f.type, f.offset)) = gs)
  | .map k e, .map k' e' => Nat.beq k k' && Nat.beq e e'
  | .func .., .func => true
  | .interface _, .iface => true
  | _, _ => false

/-- A table's row fits the program. -/
structure TyOk (P : Program) (t : TypeId) (i : TI) : Prop where
  d : ∃ d, P.underlying t = some d ∧ descOk d i.d = true
  info : ∃ f z, P.info? t = some f ∧ f.size = i.size ∧ f.bytes = i.bytes ∧ f.zero = some z ∧ ofVs z.cells.toList = some i.zero ∧ (z.cells.all (·.oneCell')) = true
  zero : i.zero.length = i.size
  flat : i.flat.length = i.size
  pos : 0 < i.bytes
  one : i.isAgg = false → i.size = 1
  zv : ∃ f z, P.info? t = some f ∧ f.zero = some z ∧ ofV z = some (zeroA i)

mutual
theorem ofV_rel (ρ : Nat → Option Nat) (own : Nat → Prop) (w : World) : ∀ (v : Value) (a : AV), ofV v = some a → VR ρ own w a v
  | .bool b, a, h => by simp only [ofV, Option.some.injEq] at h; subst h; unfold VR; rfl
  | .int k n, a, h => by simp only [ofV, Option.some.injEq] at h; subst h; unfold VR; rfl
  | .float .., _, h => by simp [ofV] at h
  | .complex .., _, h => by simp [ofV] at h
  | .string s, a, h => by simp only [ofV, Option.some.injEq] at h; subst h; unfold VR; simp
  | .pointer none, a, h => by simp only [ofV, Option.some.injEq] at h; subst h; unfold VR; rfl
  | .pointer (some _), a, h => by simp [ofV] at h
  | .slice none 0 0, a, h => by simp only [ofV, Option.some.injEq] at h; subst h; unfold VR; exact ⟨none, rfl, fun _ => rfl⟩
  | .slice none (_ + 1) _, a, h => by simp [ofV] at h
  | .slice none 0 (_ + 1), a, h => by simp [ofV] at h
  | .slice (some _) _ _, a, h => by simp [ofV] at h
  | .map none, a, h => by simp only [ofV, Option.some.injEq] at h; subst h; unfold VR; rfl
  | .map (some _), a, h => by simp [ofV] at h
  | .chan _, a, h => by simp [ofV] at h
  | .func .., a, h => by simp [ofV] at h
  | .nilFunc, a, h => by simp only [ofV, Option.some.injEq] at h; subst h; unfold VR; rfl
  | .iface .., a, h => by simp [ofV] at h
  | .nilIface, a, h => by simp only [ofV, Option.some.injEq] at h; subst h; unfold VR; rfl
  | .agg ⟨cs⟩, a, h => by
    simp only [ofV] at h
    cases hall : cs.all Value.oneCell' with
    | false => rw [hall] at h; cases h
    | true =>
      rw [hall] at h
      simp only [cond_true, Option.map_eq_some_iff] at h
      obtain ⟨l, h1, rfl⟩ := h
      unfold VR
      exact ⟨⟨cs⟩, rfl, ofVs_rel ρ own w cs l h1, by simpa using hall⟩
  | .tuple ⟨vs⟩, a, h => by
    simp only [ofV, Option.map_eq_some_iff] at h
    obtain ⟨l, h1, rfl⟩ := h
    unfold VR
    exact ⟨⟨vs⟩, rfl, ofVs_rel ρ own w vs l h1⟩
theorem ofVs_rel (ρ : Nat → Option Nat) (own : Nat → Prop) (w : World) : ∀ (vs : List Value) (as : List AV), ofVs vs = some as → LR ρ own w as vs
  | [], as, h => by simp only [ofVs, Option.some.injEq] at h; subst h; unfold LR; rfl
  | v :: vs, as, h => by
    simp only [ofVs] at h
    split at h
    · rename_i a l h1 h2
      simp only [Option.some.injEq] at h
      subst h
      unfold LR
      exact ⟨v, vs, rfl, ofV_rel ρ own w v a h1, ofVs_rel ρ own w vs l h2⟩
    · cases h
end
end Go.Abs

set_option linter.unusedVariables false
set_option linter.unusedSimpArgs false
namespace Go.Abs
open Go.RowKit

def TyAll (P : Program) (E : Env) : Prop := ∀ t i, E.ty t = some i → TyOk P t i
/-- Equality of structs, cell by cell. -/
def EqAll (P : Program) (E : Env) : Prop := ∀ t i, E.ty t = some i → i.eq = true → ∀ (ρ : Nat → Option Nat) (own : Nat → Prop) (w : World) (xs ys : List AV) (cx cy : Array Value) (b : Bool),
  xs.length = i.size → ys.length = i.size → projsOk i.flat xs = true → projsOk i.flat ys = true → cellsEq xs ys = some b → LR ρ own w xs cx.toList → LR ρ own w ys cy.toList →
  (∀ op x y, (eqGuard op t x y (.agg cx) (.agg cy)).run P w = .ok () w) ∧ (Op.equal t (.agg cx) (.agg cy)).run P w = .ok b w

section
variable {P : Program} {E : Env} {ρ : Nat → Option Nat} {own : Nat → Prop} {w : World}

theorem run_typeInfo' {t : TypeId} {f : TypeInfo} (h : P.info? t = some f) : (typeInfo t).run P w = .ok f w := by simp [typeInfo, h]
theorem run_sizeOf' {t : TypeId} {i : TI} (T : TyOk P t i) : (sizeOf t).run P w = .ok i.size w := by
  obtain ⟨f, z, h1, h2, _⟩ := T.info
  simp [sizeOf, run_typeInfo' h1, h2]
theorem run_isAgg' {t : TypeId} {i : TI} (T : TyOk P t i) : (isAgg t).run P w = .ok i.isAgg w := by
  obtain ⟨d, h1, h2⟩ := T.d
  unfold isAgg TI.isAgg
  rw [Sem.run_bind, run_underlying h1]
  cases d <;> cases hd : i.d <;> simp_all [descOk]

/-- The slots. -/
def TR (ρ : Nat → Option Nat) (own : Nat → Prop) (w : World) (t : Nat → AV) (a : Act) : Prop := ∀ i, VR ρ own w (t i) (a.tmps.getD i undef)

variable {t : Nat → AV} {a : Act}
theorem ev_sound (T : TR ρ own w t a) {x : Operand} {v : AV} (h : ev t x = some v) : VR ρ own w v (a.eval x) := by
  cases x with
  | tmp i => simp only [ev, Option.some.injEq] at h; subst h; exact T i
  | const c => exact ofV_rel ρ own w c v h
  | global g => cases h
  | func f => simp only [ev, Option.some.injEq] at h; subst h; unfold VR; exact ⟨#[], #[], rfl, by unfold LR; rfl, by unfold LR; rfl⟩
theorem evs_sound (T : TR ρ own w t a) : ∀ {l : List Operand} {vs : List AV}, evs t l = some vs → LR ρ own w vs (l.map a.eval)
  | [], _, h => by simp only [evs, Option.some.injEq] at h; subst h; unfold LR; rfl
  | x :: r, _, h => by
    simp only [evs] at h
    split at h
    · rename_i v l h1 h2
      simp only [Option.some.injEq] at h
      subst h
      unfold LR
      exact ⟨_, _, rfl, ev_sound T h1, evs_sound T h2⟩
    · cases h
/-- A value's cells. -/
theorem cells_rel {v : AV} {cv : Value} (h : VR ρ own w v cv) (hv : noTup v = some v) : LR ρ own w v.cells cv.cells.toList ∧ ∀ x ∈ cv.cells.toList, x.oneCell' = true := by
  have one : ∀ cv : Value, VR ρ own w v cv → (∀ c, cv ≠ .agg c) → cv.oneCell' = true → v.cells = [v] → LR ρ own w v.cells cv.cells.toList ∧ ∀ x ∈ cv.cells.toList, x.oneCell' = true := by
    intro cv h hne h1 hc
    have : cv.cells = #[cv] := by cases cv <;> first | rfl | exact absurd rfl (hne _)
    rw [this, hc]
    refine ⟨by unfold LR; exact ⟨cv, [], rfl, h, by unfold LR; rfl⟩, fun x hx => ?_⟩
    simp at hx
    subst hx
    exact h1
  cases v with
  | tup l => cases hv
  | any => cases hv
  | agg cs =>
    unfold VR at h
    obtain ⟨c, rfl, h1, h2⟩ := h
    exact ⟨h1, h2⟩
  | bool | int | str | nilp | nilm | nilf | nili => have h' := h; unfold VR at h'; subst h'; exact one _ h (by intro c e; cases e) rfl rfl
  | ptr => have h' := h; unfold VR at h'; obtain ⟨b, _, rfl⟩ := h'; exact one _ h (by intro c e; cases e) rfl rfl
  | rp => have h' := h; unfold VR at h'; obtain ⟨b, rfl, _⟩ := h'; exact one _ h (by intro c e; cases e) rfl rfl
  | sl => have h' := h; unfold VR at h'; obtain ⟨_, _, _, _, _, _, rfl, _⟩ := h'; exact one _ h (by intro c e; cases e) rfl rfl
  | row => have h' := h; unfold VR at h'; obtain ⟨_, _, rfl, _⟩ := h'; exact one _ h (by intro c e; cases e) rfl rfl
  | emp => have h' := h; unfold VR at h'; obtain ⟨_, rfl, _⟩ := h'; exact one _ h (by intro c e; cases e) rfl rfl
  | map => have h' := h; unfold VR at h'; obtain ⟨_, _, rfl⟩ := h'; exact one _ h (by intro c e; cases e) rfl rfl
  | fn => have h' := h; unfold VR at h'; obtain ⟨_, _, rfl, _⟩ := h'; exact one _ h (by intro c e; cases e) rfl rfl
  | ifc => have h' := h; unfold VR at h'; obtain ⟨_, rfl, _⟩ := h'; exact one _ h (by intro c e; cases e) rfl rfl

/-! ### Loads -/
theorem proj_eq {k : CK} {c : AV} (h : projOk k c = true) : proj k c = c := by
  cases k <;> cases c <;> simp_all [projOk, proj, AV.isI, AV.isB, AV.isS, AV.toI, AV.toB, AV.toS]
theorem projs_eq : ∀ {ks : List CK} {cs : List AV}, projsOk ks cs = true → ks.length ≤ cs.length ∧ projs ks cs = cs.take ks.length
  | [], cs, _ => ⟨by simp, by simp [projs]⟩
  | k :: ks, [], h => by simp [projsOk] at h
  | k :: ks, c :: cs, h => by
    simp only [projsOk] at h
    cases hk : projOk k c with
    | false => rw [hk] at h; simp at h
    | true =>
      rw [hk] at h
      simp only [cond_true] at h
      obtain ⟨h1, h2⟩ := projs_eq h
      exact ⟨by simp; omega, by simp [projs, proj_eq hk, h2]⟩

theorem loadFrom_sound {ty : TypeId} {i : TI} (T : TyOk P ty i) {ad : Addr} {cs : List AV} (hc : Cells ρ own w ad cs) {v : AV} (h : loadFrom i cs = (true, v)) :
    ∃ cv, (loadVar ty ad).run P w = .ok cv w ∧ VR ρ own w v cv := by
  unfold loadFrom at h
  have hok : projsOk i.flat cs = true := by cases hA : i.isAgg <;> rw [hA] at h <;> simp at h <;> exact h.1
  obtain ⟨h1, h2⟩ := projs_eq hok
  rw [T.flat] at h1 h2
  unfold loadVar
  rw [Sem.run_bind, run_isAgg' T]
  simp only [Result.andThen_ok]
  cases hA : i.isAgg with
  | true =>
    rw [hA] at h
    simp only [cond_true, Prod.mk.injEq] at h
    obtain ⟨_, rfl⟩ := h
    have h3 : (cond (Nat.beq cs.length i.size) cs (cs.take i.size)) = cs.take i.size := by
      cases hb : Nat.beq cs.length i.size with
      | false => rfl
      | true =>
        have := Nat.eq_of_beq_eq_true hb
        simp only [cond_true]
        exact (List.take_of_length_le (by omega)).symm
    rw [h3]
    have key : ∃ vs : List Value, vs.length = i.size ∧ LR ρ own w (cs.take i.size) vs ∧ (∀ x ∈ vs, x.oneCell' = true) ∧ ∀ (j : Nat) (v : Value), vs[j]? = some v → w.cell? (ad.add j) = some v := by
      have build : ∀ (as : List AV) (k : Nat), (∀ (j : Nat) (x : AV), as[j]? = some x → ∃ v, w.cell? (ad.add (k + j)) = some v ∧ VR ρ own w x v ∧ v.oneCell' = true) →
          ∃ vs : List Value, vs.length = as.length ∧ LR ρ own w as vs ∧ (∀ x ∈ vs, x.oneCell' = true) ∧ ∀ (j : Nat) (v : Value), vs[j]? = some v → w.cell? (ad.add (k + j)) = some v := by
        intro as
        induction as with
        | nil => intro k _; exact ⟨[], rfl, by unfold LR; rfl, by simp, by simp⟩
        | cons a as ih =>
          intro k hk
          obtain ⟨v, v1, v2, v3⟩ := hk 0 a rfl
          obtain ⟨vs, k1, k2, k3, k4⟩ := ih (k + 1) (fun j x hx => by have := hk (j + 1) x (by simpa using hx); rwa [show k + (j + 1) = k + 1 + j by omega] at this)
          refine ⟨v :: vs, by simp [k1], by unfold LR; exact ⟨v, vs, rfl, v2, k2⟩, by intro x hx; simp at hx; rcases hx with rfl | hx; exact v3; exact k3 x hx, fun j u hu => ?_⟩
          cases j with
          | zero => simp at hu; subst hu; exact v1
          | succ j => simp at hu; have := k4 j u hu; rwa [show k + 1 + j = k + (j + 1) by omega] at this
      obtain ⟨vs, k1, k2, k3, k4⟩ := build (cs.take i.size) 0 (fun j x hx => by
        rw [List.getElem?_take] at hx
        split at hx
        · simpa using hc j x hx
        · cases hx)
      exact ⟨vs, by rw [k1]; simp; omega, k2, k3, fun j v hv => by simpa using k4 j v hv⟩
    obtain ⟨vs, k1, k2, k3, k4⟩ := key
    have hl := run_loadCells_list (P := P) w ad vs k4
    rw [k1] at hl
    refine ⟨.agg vs.toArray, ?_, by unfold VR; exact ⟨vs.toArray, rfl, by simpa using k2, by simpa using k3⟩⟩
    simp [run_sizeOf' T, hl]
  | false =>
    rw [hA] at h
    simp only [cond_false, Prod.mk.injEq] at h
    obtain ⟨_, rfl⟩ := h
    have hs : 0 < i.size := by
      have := T.one hA
      omega
    rw [h2]
    obtain ⟨c, hcs⟩ : ∃ c, cs[0]? = some c := ⟨cs[0]'(by omega), by simp⟩
    obtain ⟨v, v1, v2, v3⟩ := hc 0 c hcs
    refine ⟨v, ?_, ?_⟩
    · have : w.cell? ad = some v := by simpa [Addr.add] using v1
      simp [this]
    · have : (cs.take i.size).headD .undef = c := by
        cases cs with
        | nil => simp at hcs
        | cons x xs =>
          simp at hcs
          subst hcs
          obtain ⟨n, hn⟩ : ∃ n, i.size = n + 1 := ⟨i.size - 1, by omega⟩
          simp [hn]
      rw [this]
      exact v2
end
end Go.Abs

set_option linter.unusedVariables false
set_option linter.unusedSimpArgs false
namespace Go.Abs
open Go.RowKit
section
variable {P : Program} {E : Env} {ρ : Nat → Option Nat} {own : Nat → Prop} {w : World} {t : Nat → AV} {a : Act}

theorem vint {k : IntKind} {n : Int} {cv : Value} : VR ρ own w (.int k n) cv ↔ cv = .int k n := by unfold VR; rfl
theorem vbool {b : Bool} {cv : Value} : VR ρ own w (.bool b) cv ↔ cv = .bool b := by unfold VR; rfl
theorem vstr {s : List UInt8} {cv : Value} : VR ρ own w (.str s) cv ↔ cv = .string ⟨s.toArray⟩ := by unfold VR; rfl

theorem toList_mk (s : List UInt8) : (⟨s.toArray⟩ : ByteArray).toList = s := by
  rw [ByteArray.toList_eq]
theorem size_mk (s : List UInt8) : (⟨s.toArray⟩ : ByteArray).size = s.length := by simp [ByteArray.size]

theorem intBin_sound {op : BinOp} {k : IntKind} {x y : Int} {v : AV} (h : intBin op k x y = some (true, v)) (ty : TypeId) :
    ∃ cv, (Go.binOp op ty (.int k x) (.int k y)).run P w = .ok cv w ∧ VR ρ own w v cv := by
  have hk : ∀ s : Sem Value, (if k ≠ k then stuck "BinOp: operands of different kinds" else s) = s := fun s => by simp
  cases op <;> simp only [intBin, Option.some.injEq, Prod.mk.injEq, reduceCtorEq, decide_eq_true_eq] at h <;> obtain ⟨h1, rfl⟩ := h <;>
    first
    | exact ⟨_, by simp only [Go.binOp, hk]; rfl, by first | exact vint.2 rfl | exact vbool.2 rfl⟩
    | exact ⟨_, by simp only [Go.binOp, hk, Op.intDiv, if_neg h1]; rfl, vint.2 rfl⟩

theorem shift_sound {op : BinOp} {k k' : IntKind} {x y : Int} {v : AV} {E : Env} {ty : TypeId} (hop : op = .shl ∨ op = .shr) (h : binA E op ty (.int k x) (.int k' y) = some (true, v)) :
    ∃ cv, (Go.binOp op ty (.int k x) (.int k' y)).run P w = .ok cv w ∧ VR ρ own w v cv := by
  rcases hop with rfl | rfl <;> simp only [binA, Option.some.injEq, Prod.mk.injEq, decide_eq_true_eq] at h <;> obtain ⟨h1, rfl⟩ := h <;>
    exact ⟨_, by simp only [Go.binOp, Op.shift, if_neg (show ¬ y < 0 by omega)]; rfl, vint.2 rfl⟩

theorem str_sound {op : BinOp} {x y : List UInt8} {v : AV} {ty : TypeId} (h : strBin op x y = some (true, v)) :
    ∃ cv, (Go.binOp op ty (.string ⟨x.toArray⟩) (.string ⟨y.toArray⟩)).run P w = .ok cv w ∧ VR ρ own w v cv := by
  cases op <;> simp only [strBin, Option.some.injEq, Prod.mk.injEq, reduceCtorEq, decide_eq_true_eq] at h <;> obtain ⟨h1, rfl⟩ := h
  · refine ⟨.string (⟨x.toArray⟩ ++ ⟨y.toArray⟩), ?_, ?_⟩
    · have hn : ¬ ((((⟨x.toArray⟩ : ByteArray).size + (⟨y.toArray⟩ : ByteArray).size : Nat) : Int) > IntKind.i64.max) := by
        rw [size_mk, size_mk]
        unfold i64max at h1
        simp [IntKind.max, IntKind.signed, IntKind.bits]
        omega
      simp only [Go.binOp, Op.stringOp]
      rw [if_neg hn]
      rfl
    · rw [vstr]
      congr 1
  · exact ⟨_, by simp only [Go.binOp, Op.stringOp, toList_mk]; rfl, vbool.2 rfl⟩
  · exact ⟨_, by simp only [Go.binOp, Op.stringOp, toList_mk]; rfl, vbool.2 rfl⟩

/-- What a value is that is no number and no text. -/
def Dull (v : Value) : Prop := match v with
  | .int .. | .string _ | .float .. | .complex .. => False
  | _ => True
theorem equal_run {ty : TypeId} {d : TypeDesc} (hu : P.underlying ty = some d) (x y : Value) : (Op.equal ty x y).run P w = (Op.equalIn 10000 ty x y).run P w := rfl

theorem eqIn_pos {ty : TypeId} {x y : Value} {b : Bool} (h : ∀ n, (Op.equalIn (n + 1) ty x y).run P w = .ok b w) : (Op.equal ty x y).run P w = .ok b w := h 9999

theorem nilEq_sound {ty : TypeId} {i : TI} (T : TyOk P ty i) {x y : AV} {b : Bool} (h : nilEq i.d x y = some (true, b)) {cx cy : Value} (hx : VR ρ own w x cx) (hy : VR ρ own w y cy) :
    (Op.equal ty cx cy).run P w = .ok b w ∧ (∀ op a b, (eqGuard op ty a b cx cy).run P w = .ok () w) ∧ Dull cx ∧ Dull cy := by
  obtain ⟨d, hd1, hd2⟩ := T.d
  unfold nilEq at h
  split at h
  all_goals first
    | (cases h; done)
    | (rename_i hdd
       rw [hdd] at hd2
       cases d <;> (try (simp only [descOk, Bool.false_eq_true, Nat.beq_eq, decide_eq_true_eq] at hd2)) <;> (try (cases hd2; done))
       unfold VR at hx hy
       first
       | (subst hx hy
          (try simp only [Option.some.injEq, Prod.mk.injEq, true_and] at h); subst h
          exact ⟨eqIn_pos fun n => by simp [Op.equalIn, run_underlying hd1], by intro op a b; cases op <;> rfl, trivial, trivial⟩)
       | (subst hx
          obtain ⟨b1, _, rfl⟩ := hy
          (try simp only [Option.some.injEq, Prod.mk.injEq, true_and] at h); subst h
          exact ⟨eqIn_pos fun n => by simp [Op.equalIn, run_underlying hd1], by intro op a b; cases op <;> rfl, trivial, trivial⟩)
       | (subst hy
          obtain ⟨b1, _, rfl⟩ := hx
          (try simp only [Option.some.injEq, Prod.mk.injEq, true_and] at h); subst h
          exact ⟨eqIn_pos fun n => by simp [Op.equalIn, run_underlying hd1], by intro op a b; cases op <;> rfl, trivial, trivial⟩)
       | (subst hx
          obtain ⟨a1, c1, rfl, _⟩ := hy
          (try simp only [Option.some.injEq, Prod.mk.injEq, true_and] at h); subst h
          exact ⟨eqIn_pos fun n => by simp [Op.equalIn, run_underlying hd1], by intro op a b; cases op <;> rfl, trivial, trivial⟩)
       | (subst hy
          obtain ⟨a1, c1, rfl, _⟩ := hx
          (try simp only [Option.some.injEq, Prod.mk.injEq, true_and] at h); subst h
          exact ⟨eqIn_pos fun n => by simp [Op.equalIn, run_underlying hd1], by intro op a b; cases op <;> rfl, trivial, trivial⟩)
       | skip)
  · rename_i b1 b2 el
    obtain ⟨A1, rfl, h1⟩ := hx
    obtain ⟨A2, rfl, h2⟩ := hy
    cases b1 <;> cases b2 <;> simp at h
    subst h
    rw [h1 rfl, h2 rfl]
    exact ⟨eqIn_pos fun n => by simp [Op.equalIn, run_underlying hd1], by intro op a b; cases op <;> rfl, trivial, trivial⟩
  · rename_i b1 el
    obtain ⟨A1, c1, rfl, _, h1⟩ := hx
    obtain ⟨A2, rfl, h2⟩ := hy
    cases b1 <;> simp at h
    obtain ⟨h0, rfl⟩ := h
    obtain ⟨ad, rfl, _⟩ := h1 (by simpa [Nat.blt] using h0)
    rw [h2 rfl]
    exact ⟨eqIn_pos fun n => by simp [Op.equalIn, run_underlying hd1], by intro op a b; cases op <;> rfl, trivial, trivial⟩
  · rename_i b1 el
    obtain ⟨b', A1, c1, t', n', _, rfl, hl, h1, _⟩ := hx
    obtain ⟨A2, rfl, h2⟩ := hy
    cases b1 <;> simp at h
    obtain ⟨h0, rfl⟩ := h
    rw [h1 (by omega), h2 rfl]
    exact ⟨eqIn_pos fun n => by simp [Op.equalIn, run_underlying hd1], by intro op a b; cases op <;> rfl, trivial, trivial⟩

theorem binOp_eql {ty : TypeId} {cx cy : Value} (hx : Dull cx) (hy : Dull cy) : Go.binOp .eql ty cx cy = (do pure (.bool (← Op.equal ty cx cy))) := by
  cases cx <;> first | exact hx.elim | (cases cy <;> first | exact hy.elim | rfl)
theorem binOp_neq {ty : TypeId} {cx cy : Value} (hx : Dull cx) (hy : Dull cy) : Go.binOp .neq ty cx cy = (do pure (.bool (!(← Op.equal ty cx cy)))) := by
  cases cx <;> first | exact hx.elim | (cases cy <;> first | exact hy.elim | rfl)

theorem eqA_sound (hT : TyAll P E) (hQ : EqAll P E) {ty : TypeId} {x y : AV} {b : Bool} (h : eqA E ty x y = some (true, b)) {cx cy : Value} (hx : VR ρ own w x cx) (hy : VR ρ own w y cy) :
    (Op.equal ty cx cy).run P w = .ok b w ∧ (∀ op a b, (eqGuard op ty a b cx cy).run P w = .ok () w) ∧ Dull cx ∧ Dull cy := by
  unfold eqA at h
  cases hi : E.ty ty with
  | none => rw [hi] at h; cases h
  | some i =>
    rw [hi] at h
    simp only at h
    split at h
    · rename_i xs ys
      cases hc : (i.eq && Nat.beq xs.length i.size && Nat.beq ys.length i.size) with
      | false => rw [hc] at h; cases h
      | true =>
        rw [hc] at h
        simp only [cond_true, Option.map_eq_some_iff, Prod.mk.injEq, Bool.and_eq_true] at h
        obtain ⟨b', h, ⟨p1, p2⟩, rfl⟩ := h
        simp only [Bool.and_eq_true, Nat.beq_eq] at hc
        unfold VR at hx hy
        obtain ⟨c1, rfl, l1, _⟩ := hx
        obtain ⟨c2, rfl, l2, _⟩ := hy
        obtain ⟨k1, k2⟩ := hQ ty i hi hc.1.1 ρ own w xs ys c1 c2 b' hc.1.2 hc.2 p1 p2 h l1 l2
        exact ⟨k2, k1, trivial, trivial⟩
    · exact nilEq_sound (hT ty i hi) h hx hy

/-- The result of an operation on two values. -/
theorem binA_sound (hT : TyAll P E) (hQ : EqAll P E) {op : BinOp} {ty : TypeId} {x y v : AV} (h : binA E op ty x y = some (true, v)) {cx cy : Value} (hx : VR ρ own w x cx) (hy : VR ρ own w y cy) (ox oy : Operand) :
    ∃ cv, (do eqGuard op ty ox oy cx cy; Go.binOp op ty cx cy).run P w = .ok cv w ∧ VR ρ own w v cv := by
  have plain : (eqGuard op ty ox oy cx cy).run P w = .ok () w → (∃ cv, (Go.binOp op ty cx cy).run P w = .ok cv w ∧ VR ρ own w v cv) →
      ∃ cv, (do eqGuard op ty ox oy cx cy; Go.binOp op ty cx cy).run P w = .ok cv w ∧ VR ρ own w v cv := by
    rintro h1 ⟨cv, h2, h3⟩
    exact ⟨cv, by simp [h1, h2], h3⟩
  have eqs : ∀ b, eqA E ty x y = some (true, b) → (op = .eql ∧ v = .bool b) ∨ (op = .neq ∧ v = .bool (!b)) → ∃ cv, (do eqGuard op ty ox oy cx cy; Go.binOp op ty cx cy).run P w = .ok cv w ∧ VR ρ own w v cv := by
    intro b hb ho
    obtain ⟨k1, k2, k3, k4⟩ := eqA_sound hT hQ hb hx hy
    rcases ho with ⟨rfl, rfl⟩ | ⟨rfl, rfl⟩
    · exact plain (k2 ..) ⟨_, by rw [binOp_eql k3 k4]; simp [k1], vbool.2 rfl⟩
    · exact plain (k2 ..) ⟨_, by rw [binOp_neq k3 k4]; simp [k1], vbool.2 rfl⟩
  unfold binA at h
  split at h
  · rename_i k n k' m
    rw [vint] at hx hy
    subst hx hy
    refine plain (by cases op <;> rfl) ?_
    split at h
    · exact shift_sound (E := E) (.inl rfl) (by simpa [binA] using h)
    · exact shift_sound (E := E) (.inr rfl) (by simpa [binA] using h)
    · split at h
      · rename_i e
        subst e
        exact intBin_sound h ty
      · cases h
  · rw [vstr] at hx hy
    subst hx hy
    refine plain (by cases op <;> rfl) (str_sound (ty := ty) h)
  · split at h
    · simp only [Option.map_eq_some_iff, Prod.mk.injEq] at h
      obtain ⟨⟨c, b⟩, h1, h2, h3⟩ := h
      simp only at h2 h3
      subst h2
      exact eqs b h1 (.inl ⟨rfl, h3.symm⟩)
    · simp only [Option.map_eq_some_iff, Prod.mk.injEq] at h
      obtain ⟨⟨c, b⟩, h1, h2, h3⟩ := h
      simp only at h2 h3
      subst h2
      exact eqs b h1 (.inr ⟨rfl, h3.symm⟩)
    · cases h
end
end Go.Abs

set_option linter.unusedVariables false
set_option linter.unusedSimpArgs false
namespace Go.Abs
open Go.RowKit

/-- The cells' kinds of a type that is compared cell by cell. -/
def consec (P : Program) (n : Nat) : List Field → Nat → Bool
  | [], o => Nat.beq o n
  | f :: fs, o => Nat.beq f.offset o && consec P n fs (o + P.cellsOf f.type)
def flats (g : TypeId → Option (List CK)) : List Field → Option (List CK)
  | [] => some []
  | f :: fs => match g f.type, flats g fs with
    | some a, some b => cond (f.name != "_") (some (a ++ b)) none
    | _, _ => none
def rep : Nat → List CK → List CK
  | 0, _ => []
  | n + 1, l => l ++ rep n l
def eqT (P : Program) : Nat → TypeId → Option (List CK)
  | 0, _ => none
  | n + 1, t => (match P.underlying t with
    | some .bool => some [CK.bool]
    | some (.int k) => some [CK.int k]
    | some .string => some [CK.str]
    | some (.struct fs) => cond (!P.stoodInHeld t && consec P (P.cellsOf t) fs.toList 0) (flats (eqT P n) fs.toList) none
    | some (.array k e) => (eqT P n e).map (rep k)
    | _ => none).bind fun l => cond (Nat.beq l.length (P.cellsOf t)) (some l) none

theorem eqT_len {P : Program} {n : Nat} {t : TypeId} {l : List CK} (h : eqT P n t = some l) : l.length = P.cellsOf t := by
  cases n with
  | zero => simp [eqT] at h
  | succ n =>
    unfold eqT at h
    simp only [Option.bind_eq_some_iff] at h
    obtain ⟨a, _, h⟩ := h
    cases hb : Nat.beq a.length (P.cellsOf t) with
    | false => rw [hb] at h; cases h
    | true =>
      rw [hb] at h
      simp only [cond_true, Option.some.injEq] at h
      subst h
      simpa using hb

theorem cellsEq_append : ∀ {a c : List AV} {b d : List AV} {r : Bool}, a.length = c.length → cellsEq (a ++ b) (c ++ d) = some r → ∃ r1 r2, cellsEq a c = some r1 ∧ cellsEq b d = some r2 ∧ r = (r1 && r2)
  | [], [], b, d, r, _, h => ⟨true, r, rfl, h, by simp⟩
  | x :: a, y :: c, b, d, r, hl, h => by
    simp only [List.cons_append, cellsEq] at h
    split at h
    · rename_i e q h1 h2
      obtain ⟨r1, r2, k1, k2, k3⟩ := cellsEq_append (by simpa using hl) h2
      refine ⟨e && r1, r2, by simp [cellsEq, h1, k1], k2, ?_⟩
      simp only [Option.some.injEq] at h
      rw [← h, k3, Bool.and_assoc]
    · cases h
  | [], _ :: _, _, _, _, hl, _ => by simp at hl
  | _ :: _, [], _, _, _, hl, _ => by simp at hl

theorem projsOk_append : ∀ {ks ls : List CK} {xs : List AV}, projsOk (ks ++ ls) xs = true → projsOk ks (xs.take ks.length) = true ∧ projsOk ls (xs.drop ks.length) = true
  | [], ls, xs, h => by simpa [projsOk] using h
  | k :: ks, ls, [], h => by simp [projsOk] at h
  | k :: ks, ls, x :: xs, h => by
    simp only [List.cons_append, projsOk] at h
    cases hk : projOk k x with
    | false => rw [hk] at h; cases h
    | true =>
      rw [hk] at h
      obtain ⟨h1, h2⟩ := projsOk_append (by simpa using h)
      exact ⟨by simp [projsOk, hk, h1], by simpa using h2⟩

section
variable {P : Program} {E : Env} {ρ : Nat → Option Nat} {own : Nat → Prop} {w : World}

theorem LR.drop {as : List AV} {vs : List Value} (h : LR ρ own w as vs) (n : Nat) : LR ρ own w (as.drop n) (vs.drop n) := by
  refine LR.of (by simp [LR.length h]) fun i a hi => ?_
  rw [List.getElem?_drop] at hi ⊢
  exact LR.get h hi
theorem LR.take {as : List AV} {vs : List Value} (h : LR ρ own w as vs) (n : Nat) : LR ρ own w (as.take n) (vs.take n) := by
  refine LR.of (by simp [LR.length h]) fun i a hi => ?_
  rw [List.getElem?_take] at hi ⊢
  split at hi
  · rename_i hn
    rw [if_pos hn]
    exact LR.get h hi
  · cases hi

/-- A value of a type, its cells told. -/
def CV (P : Program) (ρ : Nat → Option Nat) (own : Nat → Prop) (w : World) (t : TypeId) (xs : List AV) (v : Value) : Prop :=
  match P.underlying t with
  | some (.struct _) | some (.array _ _) => ∃ c : Array Value, v = .agg c ∧ LR ρ own w xs c.toList
  | _ => ∃ x, xs = [x] ∧ VR ρ own w x v

theorem part_ok {n : Nat} {t : TypeId} {ks : List CK} (h : eqT P n t = some ks) {cs : Array Value} {xs : List AV} (hx : LR ρ own w xs cs.toList) (off : Nat) (hl : off + ks.length ≤ xs.length) :
    ∃ v, (part t cs off).run P w = .ok v w ∧ CV P ρ own w t ((xs.drop off).take ks.length) v := by
  have hlen := eqT_len h
  cases n with
  | zero => simp [eqT] at h
  | succ n =>
    unfold eqT at h
    simp only [Option.bind_eq_some_iff] at h
    obtain ⟨l, h1, h2⟩ := h
    have hc : ks = l := by
      cases hb : Nat.beq l.length (P.cellsOf t) with
      | false => rw [hb] at h2; cases h2
      | true => rw [hb] at h2; simpa using h2.symm
    subst hc
    have ag : (∃ fs, P.underlying t = some (.struct fs)) ∨ (∃ k e, P.underlying t = some (.array k e)) → ∃ v, (part t cs off).run P w = .ok v w ∧ CV P ρ own w t ((xs.drop off).take ks.length) v := by
      intro hk
      have hu : ∃ d, P.underlying t = some d := by rcases hk with ⟨fs, e⟩ | ⟨k, e', e⟩ <;> exact ⟨_, e⟩
      obtain ⟨d, hd⟩ := hu
      obtain ⟨i, hi⟩ := info_of_underlying hd
      refine ⟨.agg (cs.extract off (off + P.cellsOf t)), ?_, ?_⟩
      · rcases hk with ⟨fs, e⟩ | ⟨k, e', e⟩ <;> simp [part, isAgg, run_underlying e, run_sizeOf w hi]
      · have : CV P ρ own w t ((xs.drop off).take ks.length) (.agg (cs.extract off (off + P.cellsOf t))) = ∃ c : Array Value, (Value.agg (cs.extract off (off + P.cellsOf t))) = .agg c ∧ LR ρ own w ((xs.drop off).take ks.length) c.toList := by
          rcases hk with ⟨fs, e⟩ | ⟨k, e', e⟩ <;> simp only [CV, e]
        rw [this]
        refine ⟨_, rfl, ?_⟩
        rw [Array.toList_extract, hlen]
        simp only [List.extract, Nat.add_sub_cancel_left]
        exact (hx.drop off).take _
    have pl : ∀ k : CK, ks = [k] → (isAgg t).run P w = .ok false w → (CV P ρ own w t ((xs.drop off).take ks.length) = fun v => ∃ x, ((xs.drop off).take ks.length) = [x] ∧ VR ρ own w x v) → ∃ v, (part t cs off).run P w = .ok v w ∧ CV P ρ own w t ((xs.drop off).take ks.length) v := by
      intro k hk hag hcv
      subst hk
      have hlt : off < xs.length := by simp at hl; omega
      obtain ⟨v, hv, hr⟩ := LR.get hx (i := off) (a := xs[off]) (by simp)
      have hv' : cs[off]? = some v := by simpa using hv
      refine ⟨v, by simp [part, hag, hv'], ?_⟩
      rw [hcv]
      refine ⟨xs[off], ?_, hr⟩
      rw [List.drop_eq_getElem_cons hlt]
      rfl
    cases hu : P.underlying t with
    | none => rw [hu] at h1; simp at h1
    | some d =>
      rw [hu] at h1
      cases d with
      | bool => simp only [Option.some.injEq] at h1; exact pl _ h1.symm (by simp [isAgg, run_underlying hu]) (by funext v; simp [CV, hu])
      | int k => simp only [Option.some.injEq] at h1; exact pl _ h1.symm (by simp [isAgg, run_underlying hu]) (by funext v; simp [CV, hu])
      | string => simp only [Option.some.injEq] at h1; exact pl _ h1.symm (by simp [isAgg, run_underlying hu]) (by funext v; simp [CV, hu])
      | struct fs => exact ag (.inl ⟨fs, hu⟩)
      | array k e => exact ag (.inr ⟨k, e, hu⟩)
      | _ => simp at h1

def EqI (P : Program) (m : Nat) (t : TypeId) (ks : List CK) : Prop :=
  ∀ (ρ : Nat → Option Nat) (own : Nat → Prop) (w : World) (xs ys : List AV) (v u : Value) (b : Bool), xs.length = ks.length → ys.length = ks.length → projsOk ks xs = true → projsOk ks ys = true → cellsEq xs ys = some b →
    CV P ρ own w t xs v → CV P ρ own w t ys u → (Op.equalIn m t v u).run P w = .ok b w

theorem eqFields_ok {m n : Nat} (N : Nat) (IH : ∀ t ks, eqT P n t = some ks → EqI P m t ks) {xs ys : List AV} {cx cy : Array Value} (hx : LR ρ own w xs cx.toList) (hy : LR ρ own w ys cy.toList)
    (lx : xs.length = N) (ly : ys.length = N) : ∀ (fs : List Field) (o : Nat) (ks : List CK) (b : Bool), consec P N fs o = true → flats (eqT P n) fs = some ks → o ≤ N →
      projsOk ks (xs.drop o) = true → projsOk ks (ys.drop o) = true → cellsEq (xs.drop o) (ys.drop o) = some b → (Op.eqFields m cx cy fs).run P w = .ok b w
  | [], o, ks, b, hc, hf, ho, px, py, he => by
    simp only [consec, Nat.beq_eq] at hc
    subst hc
    rw [List.drop_of_length_le (by omega), List.drop_of_length_le (by omega)] at he
    simp only [cellsEq, Option.some.injEq] at he
    subst he
    simp [Op.eqFields]
  | f :: fs, o, ks, b, hc, hf, ho, px, py, he => by
    simp only [consec, Bool.and_eq_true, Nat.beq_eq] at hc
    obtain ⟨hoff, hc⟩ := hc
    simp only [flats] at hf
    split at hf
    case h_2 => cases hf
    rename_i ka kb h1 h2
    have hn : (f.name != "_") = true := by
      cases hb : (f.name != "_") with
      | true => rfl
      | false => rw [hb] at hf; cases hf
    rw [hn] at hf
    simp only [cond_true, Option.some.injEq] at hf
    subst hf
    have hk := eqT_len h1
    rw [← hk] at hc
    have hle : o + ka.length ≤ N := by
      clear px py he IH h2
      revert hc
      generalize o + ka.length = q
      clear hoff
      induction fs generalizing q with
      | nil => intro hc; simp only [consec, Nat.beq_eq] at hc; omega
      | cons g gs ih =>
        intro hc
        simp only [consec, Bool.and_eq_true] at hc
        have := ih _ hc.2
        omega
    obtain ⟨px1, px2⟩ := projsOk_append px
    obtain ⟨py1, py2⟩ := projsOk_append py
    rw [List.drop_drop] at px2 py2
    have ex : xs.drop o = (xs.drop o).take ka.length ++ xs.drop (o + ka.length) := by rw [← List.drop_drop, List.take_append_drop]
    have ey : ys.drop o = (ys.drop o).take ka.length ++ ys.drop (o + ka.length) := by rw [← List.drop_drop, List.take_append_drop]
    rw [ex, ey] at he
    obtain ⟨r1, r2, e1, e2, rfl⟩ := cellsEq_append (by simp; omega) he
    obtain ⟨v, v1, v2⟩ := part_ok h1 hx o (by omega)
    obtain ⟨u, u1, u2⟩ := part_ok h1 hy o (by omega)
    have q1 := IH _ _ h1 ρ own w _ _ v u r1 (by simp; omega) (by simp; omega) px1 py1 e1 v2 u2
    have q2 := eqFields_ok N IH hx hy lx ly fs _ _ r2 hc h2 hle px2 py2 e2
    have hn' : f.name ≠ "_" := by simpa using hn
    rw [Op.eqFields]
    simp only [if_pos hn', Sem.run_bind, hoff, v1, u1, q1, Result.andThen_ok]
    cases r1 <;> simp [q2]

theorem eqItems_ok {m n : Nat} (IH : ∀ t ks, eqT P n t = some ks → EqI P m t ks) {e : TypeId} {ka : List CK} (h1 : eqT P n e = some ka) {xs ys : List AV} {cx cy : Array Value} (hx : LR ρ own w xs cx.toList) (hy : LR ρ own w ys cy.toList) :
    ∀ (k j : Nat) (b : Bool), xs.length = (j + k) * ka.length → ys.length = (j + k) * ka.length →
      projsOk (rep k ka) (xs.drop (j * ka.length)) = true → projsOk (rep k ka) (ys.drop (j * ka.length)) = true → cellsEq (xs.drop (j * ka.length)) (ys.drop (j * ka.length)) = some b → (Op.eqItems m e (P.cellsOf e) cx cy (List.range' j k)).run P w = .ok b w
  | 0, j, b, lx, ly, px, py, he => by
    rw [List.drop_of_length_le (by simp [lx]), List.drop_of_length_le (by simp [ly])] at he
    simp only [cellsEq, Option.some.injEq] at he
    subst he
    simp [Op.eqItems]
  | k + 1, j, b, lx, ly, px, py, he => by
    have hk := eqT_len h1
    simp only [rep] at px py
    have hjk : (j + (k + 1)) * ka.length = j * ka.length + ka.length + k * ka.length := by rw [Nat.add_mul, Nat.succ_mul]; omega
    have hj1 : (j + 1) * ka.length = j * ka.length + ka.length := by rw [Nat.succ_mul]
    obtain ⟨px1, px2⟩ := projsOk_append px
    obtain ⟨py1, py2⟩ := projsOk_append py
    rw [List.drop_drop] at px2 py2
    have ex : xs.drop (j * ka.length) = (xs.drop (j * ka.length)).take ka.length ++ xs.drop (j * ka.length + ka.length) := by rw [← List.drop_drop, List.take_append_drop]
    have ey : ys.drop (j * ka.length) = (ys.drop (j * ka.length)).take ka.length ++ ys.drop (j * ka.length + ka.length) := by rw [← List.drop_drop, List.take_append_drop]
    rw [ex, ey] at he
    obtain ⟨r1, r2, e1, e2, rfl⟩ := cellsEq_append (by simp; omega) he
    obtain ⟨v, v1, v2⟩ := part_ok h1 hx (j * ka.length) (by omega)
    obtain ⟨u, u1, u2⟩ := part_ok h1 hy (j * ka.length) (by omega)
    have q1 := IH _ _ h1 ρ own w _ _ v u r1 (by simp; omega) (by simp; omega) px1 py1 e1 v2 u2
    have q2 := eqItems_ok IH h1 hx hy k (j + 1) r2 (by rw [lx]; congr 1; omega) (by rw [ly]; congr 1; omega) (by rw [hj1]; exact px2) (by rw [hj1]; exact py2) (by rw [hj1]; exact e2)
    rw [List.range'_succ, Op.eqItems]
    rw [← hk] at q2 ⊢
    simp only [Sem.run_bind, v1, u1, q1, Result.andThen_ok]
    cases r1 <;> simp [q2]

theorem eqIn_ok : ∀ (n : Nat) (t : TypeId) (ks : List CK), eqT P n t = some ks → ∀ d, EqI P (d + n) t ks
  | 0, _, _, h, _ => by simp [eqT] at h
  | n + 1, t, ks, h, d => by
    intro ρ own w xs ys v u b lx ly px py he hv hu'
    have hlen := eqT_len h
    unfold eqT at h
    simp only [Option.bind_eq_some_iff] at h
    obtain ⟨l, h1, h2⟩ := h
    have hc : ks = l := by
      cases hb : Nat.beq l.length (P.cellsOf t) with
      | false => rw [hb] at h2; cases h2
      | true => rw [hb] at h2; simpa using h2.symm
    subst hc
    have IH : ∀ t ks, eqT P n t = some ks → EqI P (d + n) t ks := fun t ks h => eqIn_ok n t ks h d
    cases hu : P.underlying t with
    | none => rw [hu] at h1; simp at h1
    | some dd =>
      rw [hu] at h1
      unfold CV at hv hu'
      rw [hu] at hv hu'
      cases dd with
      | bool =>
        simp only [Option.some.injEq] at h1
        subst h1
        obtain ⟨x, rfl, hx⟩ := hv
        obtain ⟨y, rfl, hy⟩ := hu'
        cases x <;> simp [projsOk, projOk, AV.isB] at px
        cases y <;> simp [projsOk, projOk, AV.isB] at py
        unfold VR at hx hy
        subst hx; subst hy
        simp [cellsEq, cellEq] at he
        subst he
        exact run_equalIn_bool w _ t _ _ hu
      | int k =>
        simp only [Option.some.injEq] at h1
        subst h1
        obtain ⟨x, rfl, hx⟩ := hv
        obtain ⟨y, rfl, hy⟩ := hu'
        cases x <;> simp [projsOk, projOk, AV.isI] at px
        cases y <;> simp [projsOk, projOk, AV.isI] at py
        unfold VR at hx hy
        subst hx; subst hy
        subst px; subst py
        simp [cellsEq, cellEq] at he
        subst he
        exact run_equalIn_int w _ t _ _ _ _ hu
      | string =>
        simp only [Option.some.injEq] at h1
        subst h1
        obtain ⟨x, rfl, hx⟩ := hv
        obtain ⟨y, rfl, hy⟩ := hu'
        cases x <;> simp [projsOk, projOk, AV.isS] at px
        cases y <;> simp [projsOk, projOk, AV.isS] at py
        unfold VR at hx hy
        subst hx; subst hy
        simp [cellsEq, cellEq] at he
        subst he
        have := run_equalIn_string w (d + n) t ⟨(‹List UInt8›).toArray⟩ ⟨(‹List UInt8›).toArray⟩ hu
        rename_i s1 s2
        have := run_equalIn_string w (d + n) t ⟨s1.toArray⟩ ⟨s2.toArray⟩ hu
        rw [ByteArray.toList_eq, ByteArray.toList_eq] at this
        exact this
      | struct fs =>
        simp only at h1
        cases hb : (!P.stoodInHeld t && consec P (P.cellsOf t) fs.toList 0) with
        | false => rw [hb] at h1; cases h1
        | true =>
          rw [hb] at h1
          simp only [cond_true] at h1
          simp only [Bool.and_eq_true, Bool.not_eq_true'] at hb
          obtain ⟨c1, rfl, l1⟩ := hv
          obtain ⟨c2, rfl, l2⟩ := hu'
          have hf : P.fieldsOf t = fs := by simp [Program.fieldsOf, hu]
          show (Op.equalIn (d + n + 1) t _ _).run P w = _
          rw [run_equalIn_struct w (d + n) t c1 c2 (by rw [hf]; exact hu) hb.1, hf]
          exact eqFields_ok _ IH l1 l2 (by omega) (by omega) fs.toList 0 ks b hb.2 h1 (by omega) px py he
      | array k e =>
        simp only [Option.map_eq_some_iff] at h1
        obtain ⟨ka, h1, rfl⟩ := h1
        obtain ⟨c1, rfl, l1⟩ := hv
        obtain ⟨c2, rfl, l2⟩ := hu'
        have hrep : ∀ k, (rep k ka).length = k * ka.length := by
          intro k
          induction k with
          | zero => simp [rep]
          | succ k ih => simp [rep, ih, Nat.succ_mul]; omega
        have hi : ∃ i, P.info? e = some i := by
          cases n with
          | zero => simp [eqT] at h1
          | succ n =>
            unfold eqT at h1
            cases hue : P.underlying e with
            | none => rw [hue] at h1; simp at h1
            | some _ => exact info_of_underlying hue
        obtain ⟨i, hi⟩ := hi
        show (Op.equalIn (d + n + 1) t _ _).run P w = _
        rw [run_equalIn_array w (d + n) c1 c2 hu hi, List.range_eq_range']
        exact eqItems_ok IH h1 l1 l2 k 0 b (by rw [lx, hrep]; simp) (by rw [ly, hrep]; simp) (by simpa using px) (by simpa using py) (by simpa using he)
      | _ => simp at h1

def CK.same : CK → CK → Bool
  | .int k, .int k' => decide (k = k')
  | .bool, .bool | .str, .str | .raw, .raw => true
  | _, _ => false
def sameCK : List CK → List CK → Bool
  | [], [] => true
  | x :: xs, y :: ys => x.same y && sameCK xs ys
  | _, _ => false
theorem sameCK_eq : ∀ {xs ys : List CK}, sameCK xs ys = true → xs = ys
  | [], [], _ => rfl
  | x :: xs, y :: ys, h => by
    simp only [sameCK, Bool.and_eq_true] at h
    rw [sameCK_eq h.2]
    congr 1
    cases x <;> cases y <;> simp_all [CK.same]
  | [], _ :: _, h => by simp [sameCK] at h
  | _ :: _, [], h => by simp [sameCK] at h

/-- A type's '==' is what the table says. -/
structure EqOk (P : Program) (t : TypeId) (i : TI) : Prop where
  agg : ∃ d, P.underlying t = some d ∧ ((∃ fs, d = .struct fs) ∨ (∃ k e, d = .array k e))
  guard : P.eqGuardType P.depth t = false
  t : ∃ l, eqT P 8 t = some l ∧ sameCK l i.flat = true
theorem eq_ok {t : TypeId} {i : TI} (T : TyOk P t i) (Q : EqOk P t i) (ρ : Nat → Option Nat) (own : Nat → Prop) (w : World) (xs ys : List AV) (cx cy : Array Value) (b : Bool)
    (lx : xs.length = i.size) (ly : ys.length = i.size) (px : projsOk i.flat xs = true) (py : projsOk i.flat ys = true) (he : cellsEq xs ys = some b) (hx : LR ρ own w xs cx.toList) (hy : LR ρ own w ys cy.toList) :
    (∀ op x y, (eqGuard op t x y (.agg cx) (.agg cy)).run P w = .ok () w) ∧ (Op.equal t (.agg cx) (.agg cy)).run P w = .ok b w := by
  obtain ⟨l, h1, h2⟩ := Q.t
  have e := sameCK_eq h2
  subst e
  refine ⟨fun op x y => run_eqGuard_agg w op t x y cx cy Q.guard, ?_⟩
  obtain ⟨d, hd, ha⟩ := Q.agg
  have hcv : ∀ (zs : List AV) (c : Array Value), LR ρ own w zs c.toList → CV P ρ own w t zs (.agg c) := by
    intro zs c hz
    unfold CV
    rw [hd]
    rcases ha with ⟨fs, rfl⟩ | ⟨k, e, rfl⟩ <;> exact ⟨c, rfl, hz⟩
  exact eqIn_ok 8 t _ h1 9992 ρ own w xs ys _ _ b (by rw [lx, T.flat]) (by rw [ly, T.flat]) px py he (hcv _ _ hx) (hcv _ _ hy)
end
end Go.Abs

set_option linter.unusedVariables false
namespace Go.Abs
open Go.RowKit
variable {P : Program}
theorem info_of {t : TypeId} {f : TypeInfo} (h : P.types[t]? = some f) : P.info? t = some f := by
  have hl : t < P.types.size := by
    rw [Array.getElem?_eq_some_iff] at h
    exact h.1
  show P.toTables.info? t = _
  unfold Tables.info?
  rw [if_pos hl]
  exact h
def tiOk (d : TypeDesc) (f : TypeInfo) (i : TI) : Bool :=
  descOk d i.d && Nat.beq f.size i.size && Nat.beq f.bytes i.bytes && Nat.beq i.zero.length i.size && Nat.beq i.flat.length i.size && Nat.blt 0 i.bytes && (i.isAgg || Nat.beq i.size 1)
    && (match f.zero with | some z => z.cells.toList.all (·.oneCell') | none => false)
def zeroV (f : TypeInfo) : Option AV := match f.zero with | some z => ofV z | none => none
def zeroOf (f : TypeInfo) : Option (List AV) := match f.zero with | some z => ofVs z.cells.toList | none => none
theorem tyOk_of {t : TypeId} {d : TypeDesc} {f : TypeInfo} {i : TI} (hd : P.underlying t = some d) (hf : P.types[t]? = some f) (h : tiOk d f i = true) (hz : zeroOf f = some i.zero) (hv : zeroV f = some (zeroA i)) : TyOk P t i := by
  unfold tiOk at h
  simp only [Bool.and_eq_true, Nat.beq_eq] at h
  obtain ⟨⟨⟨⟨⟨⟨⟨h1, h2⟩, h3⟩, h4⟩, h5⟩, h6⟩, h7⟩, h8⟩ := h
  unfold zeroOf at hz
  cases hz' : f.zero with
  | none => rw [hz'] at h8; cases h8
  | some z =>
    rw [hz'] at h8 hz
    refine ⟨⟨d, hd, h1⟩, ⟨f, z, info_of hf, h2, h3, hz', hz, by rw [← Array.all_toList]; exact h8⟩, h4, h5, by simpa using h6, fun ha => ?_, ⟨f, z, info_of hf, hz', ?_⟩⟩
    · rw [ha] at h7
      simpa using h7
    · unfold zeroV at hv
      rw [hz'] at hv
      exact hv
def AllT (P : Program) (o : Option TI) (t : TypeId) : Prop := ∀ i, o = some i → TyOk P t i ∧ (i.eq = true → EqOk P t i)
theorem allN {b : Bool} {x y : Option TI} {t : TypeId} (hx : AllT P x t) (hy : AllT P y t) : AllT P (bif b then x else y) t := by cases b <;> assumption
theorem allL {n : Nat} {i : TI} {t : TypeId} (h : TyOk P n i) (q : i.eq = true → EqOk P n i) : AllT P (bif Nat.beq t n then some i else none) t := by
  intro j hj
  cases hb : Nat.beq t n with
  | false => rw [hb] at hj; cases hj
  | true =>
    rw [hb] at hj
    simp only [cond_true, Option.some.injEq] at hj
    simp only [Nat.beq_eq] at hb
    subst hb; subst hj
    exact ⟨h, q⟩
theorem tyAll_of {E : Env} (h : ∀ t, AllT P (E.ty t) t) : TyAll P E := fun t i hi => (h t i hi).1
theorem eqAll_of {E : Env} (h : ∀ t, AllT P (E.ty t) t) : EqAll P E := fun t i hi he ρ own w xs ys cx cy b lx ly px py hc hx hy =>
  eq_ok (h t i hi).1 ((h t i hi).2 he) ρ own w xs ys cx cy b lx ly px py hc hx hy
def eqChk (P : Program) (t : TypeId) (i : TI) : Bool := (match P.underlying t with | some (.struct _) | some (.array _ _) => true | _ => false) && (match eqT P 8 t with | some l => sameCK l i.flat | none => false)
theorem eqOk_of {t : TypeId} {i : TI} (hg : P.eqGuardType P.depth t = false) (h : eqChk P t i = true) : EqOk P t i := by
  unfold eqChk at h
  simp only [Bool.and_eq_true] at h
  refine ⟨?_, hg, ?_⟩
  · have h1 := h.1
    split at h1
    · rename_i fs e; exact ⟨_, e, .inl ⟨fs, rfl⟩⟩
    · rename_i k e' e; exact ⟨_, e, .inr ⟨k, e', rfl⟩⟩
    · cases h1
  · have h2 := h.2
    split at h2
    · rename_i l e; exact ⟨l, e, h2⟩
    · cases h2
end Go.Abs

set_option linter.unusedVariables false
set_option linter.unusedSimpArgs false
namespace Go.Abs
open Go.RowKit
section
variable {P : Program} {E : Env} {ρ : Nat → Option Nat} {own : Nat → Prop} {w : World} {t : Nat → AV} {a : Act}

theorem boundA_sound (T : TR ρ own w t a) {x : Option Operand} {n : Option Int} (h : boundA t x = some n) :
    (n = none ∧ x.map a.eval = none) ∨ ∃ k m, n = some m ∧ x.map a.eval = some (.int k m) := by
  cases x with
  | none => simp only [boundA, Option.some.injEq] at h; subst h; exact .inl ⟨rfl, rfl⟩
  | some x =>
    simp only [boundA] at h
    split at h
    · rename_i k m hm
      simp only [Option.some.injEq] at h
      subst h
      exact .inr ⟨k, m, rfl, by rw [Option.map_some, vint.1 (ev_sound T hm)]⟩
    · cases h

theorem run_sliceBound {k : IntKind} {m : Int} {y : Nat} {c : BoundsCode} (h0 : 0 ≤ m) (h1 : m ≤ y) : (Instr.sliceBound (.int k m) y c).run P w = .ok m.toNat w := by
  simp [Instr.sliceBound, asIntOf, h0, h1]

theorem run_sliceBounds {sl : Bool} {len cap : Nat} {lo hi : Option Value} {lo' hi' : Option Int}
    (hlo : (lo' = none ∧ lo = none) ∨ ∃ k m, lo' = some m ∧ lo = some (.int k m)) (hhi : (hi' = none ∧ hi = none) ∨ ∃ k m, hi' = some m ∧ hi = some (.int k m))
    (hb : bndOk (lo'.getD 0) (hi'.getD len) len = true) (hc : len ≤ cap) :
    (Instr.sliceBounds sl len cap lo hi none).run P w = .ok ((lo'.getD 0).toNat, (hi'.getD len).toNat, cap) w := by
  unfold bndOk at hb
  simp only [Bool.and_eq_true, decide_eq_true_eq] at hb
  obtain ⟨⟨h1, h2⟩, h3⟩ := hb
  rcases hlo with ⟨rfl, rfl⟩ | ⟨k, m, rfl, rfl⟩ <;> rcases hhi with ⟨rfl, rfl⟩ | ⟨k', m', rfl, rfl⟩ <;> simp only [Option.getD_none, Option.getD_some] at h1 h2 h3 ⊢
  · simp [Instr.sliceBounds]
  · simp [Instr.sliceBounds, run_sliceBound (k := k') (y := cap) (show 0 ≤ m' by omega) (by omega)]
  · simp [Instr.sliceBounds, run_sliceBound (k := k) (y := len) h1 (by omega)]
  · simp [Instr.sliceBounds, run_sliceBound (k := k') (y := cap) (show 0 ≤ m' by omega) (by omega), run_sliceBound (k := k) (y := m'.toNat) h1 (by omega)]

theorem run_sliceBounds3 {sl : Bool} {len cap : Nat} {lo hi mx : Option Value} (hlo : lo = none) {k k' : IntKind} (hhi : hi = some (.int k 0)) (hmx : mx = some (.int k' 0)) :
    (Instr.sliceBounds sl len cap lo hi mx).run P w = .ok (0, 0, 0) w := by
  subst hlo hhi hmx
  simp [Instr.sliceBounds, run_sliceBound (k := k') (y := cap) (m := 0) (by omega) (by omega), run_sliceBound (k := k) (y := 0) (m := 0) (by omega) (by omega)]

theorem run_sliceAt_str {ty : TypeId} {i : TI} (T : TyOk P ty i) (hd : i.d = .str) {s : List UInt8} {lo hi : Option Value} {l h m : Nat}
    (hb : (Instr.sliceBounds false s.length s.length lo hi none).run P w = .ok (l, h, m) w) :
    (Instr.sliceAt ty (.string ⟨s.toArray⟩) lo hi none).run P w = .ok (.string ((⟨s.toArray⟩ : ByteArray).extract l h)) w := by
  obtain ⟨d, h1, h2⟩ := T.d
  rw [hd] at h2
  cases d <;> simp [descOk] at h2
  simp [Instr.sliceAt, Instr.slice, run_underlying h1, size_mk, hb]

theorem run_sliceAt_sl {ty e : TypeId} {i ei : TI} (T : TyOk P ty i) (hd : i.d = .slice e) (Te : TyOk P e ei) {A : Option Addr} {len cap : Nat} {lo hi mx : Option Value} {l h m : Nat}
    (hb : (Instr.sliceBounds true len cap lo hi mx).run P w = .ok (l, h, m) w) :
    (Instr.sliceAt ty (.slice A len cap) lo hi mx).run P w = .ok (.slice (if m = l then A else A.map (·.add (l * ei.size))) (h - l) (m - l)) w := by
  obtain ⟨d, h1, h2⟩ := T.d
  rw [hd] at h2
  cases d <;> simp [descOk] at h2
  subst h2
  simp [Instr.sliceAt, Instr.slice, run_underlying h1, hb, run_sizeOf' Te]

theorem CR.rebase {ad : Addr} {k i : Nat} {cs : List AV} (h : CR ρ own w ad (k + i) cs) : CR ρ own w (ad.add k) i cs := by
  refine CR.of fun j x hx => ?_
  have := h.get hx
  rw [add_add, add_block, ← Nat.add_assoc]
  exact this

theorem row_cut {sz : Nat} {xs : List (List AV)} {A : Option Addr} {cap l h : Nat} (hx : VR ρ own w (.row sz xs) (.slice A xs.length cap)) (hl : l ≤ h) (hh : h ≤ xs.length) :
    VR ρ own w (.row sz ((xs.drop l).take (h - l))) (.slice (if cap = l then A else A.map (·.add (l * sz))) (h - l) (cap - l)) := by
  have hx' := hx
  unfold VR at hx' ⊢
  obtain ⟨A', cap', e, hc, hr⟩ := hx'
  cases e
  have hlen : ((xs.drop l).take (h - l)).length = h - l := by simp; omega
  refine ⟨_, _, by rw [hlen], by rw [hlen]; omega, fun hp => ?_⟩
  rw [hlen] at hp
  obtain ⟨ad, rfl, hR⟩ := hr (by omega)
  rw [if_neg (by omega)]
  refine ⟨ad.add (l * sz), rfl, RR.of fun j x hj => ?_⟩
  rw [List.getElem?_take] at hj
  split at hj
  · rw [List.getElem?_drop] at hj
    obtain ⟨k1, k2⟩ := hR.get hj
    refine ⟨k1, CR.rebase ?_⟩
    rw [Nat.zero_add, ← Nat.add_mul]
    rwa [Nat.zero_add] at k2
  · cases hj

theorem sliceA_sound (hT : TyAll P E) {ty : TypeId} {x v : AV} {lo' hi' mx' : Option Int} (h : sliceA E ty x lo' hi' mx' = some (true, v)) {cx : Value} (hx : VR ρ own w x cx) {lo hi mx : Option Value}
    (hlo : (lo' = none ∧ lo = none) ∨ ∃ k m, lo' = some m ∧ lo = some (.int k m)) (hhi : (hi' = none ∧ hi = none) ∨ ∃ k m, hi' = some m ∧ hi = some (.int k m))
    (hmx : (mx' = none ∧ mx = none) ∨ ∃ k m, mx' = some m ∧ mx = some (.int k m)) :
    ∃ cv, (Instr.sliceAt ty cx lo hi mx).run P w = .ok cv w ∧ VR ρ own w v cv := by
  unfold sliceA at h
  cases hi0 : E.ty ty with
  | none => rw [hi0] at h; cases h
  | some i =>
    rw [hi0] at h
    have Ti := hT ty i hi0
    simp only at h
    split at h
    · rename_i s hd
      split at h
      · cases h
      · rcases hmx with ⟨_, rfl⟩ | ⟨k, m, hm, _⟩
        · simp only [Option.some.injEq, Prod.mk.injEq] at h
          obtain ⟨hb, rfl⟩ := h
          rw [vstr] at hx
          subst hx
          refine ⟨_, run_sliceAt_str Ti hd (run_sliceBounds hlo hhi hb (Nat.le_refl _)), vstr.2 ?_⟩
          congr 1
          apply ByteArray.ext
          simp [ByteArray.data_extract, List.take_drop]
        · cases hm
    · rename_i x e hd
      cases he : E.ty e with
      | none => rw [he] at h; cases h
      | some ei =>
        rw [he] at h
        have Te := hT e ei he
        simp only at h
        split at h
        · rename_i sz xs
          have hx' := hx
          unfold VR at hx'
          obtain ⟨A, cap, rfl, hle, hr⟩ := hx'
          split at h
          · rename_i m
            split at h
            · rename_i hh
              simp only [Option.some.injEq, Prod.mk.injEq, Bool.and_eq_true, decide_eq_true_eq] at h
              obtain ⟨⟨rfl, rfl⟩, rfl⟩ := h
              rcases hlo with ⟨_, rfl⟩ | ⟨_, _, e, _⟩
              · rcases hhi with ⟨e, _⟩ | ⟨k1, m1, e, rfl⟩
                · cases e
                · cases e
                  rcases hmx with ⟨e, _⟩ | ⟨k2, m2, e, rfl⟩
                  · cases e
                  · cases e
                    exact ⟨_, run_sliceAt_sl Ti hd Te (run_sliceBounds3 rfl rfl rfl), by unfold VR; exact ⟨A, by simp, by simp⟩⟩
              · cases e
            · cases h
          · cases hsz : Nat.beq sz ei.size with
            | false => rw [hsz] at h; cases h
            | true =>
              rw [hsz] at h
              simp only [cond_true, Option.some.injEq, Prod.mk.injEq] at h
              obtain ⟨hb, rfl⟩ := h
              simp only [Nat.beq_eq] at hsz
              subst hsz
              rcases hmx with ⟨_, rfl⟩ | ⟨_, _, e, _⟩
              · refine ⟨_, run_sliceAt_sl Ti hd Te (run_sliceBounds hlo hhi hb hle), ?_⟩
                unfold bndOk at hb
                simp only [Bool.and_eq_true, decide_eq_true_eq] at hb
                exact row_cut hx (by omega) (by omega)
              · cases e
        · rename_i β sz off len
          have hx' := hx
          unfold VR at hx'
          obtain ⟨b, A, cap, t', n, r1, rfl, hle, ha, hs, hn⟩ := hx'
          split at h
          · cases h
          · cases hsz : Nat.beq sz ei.size with
            | false => rw [hsz] at h; cases h
            | true =>
              rw [hsz] at h
              simp only [cond_true, Option.some.injEq, Prod.mk.injEq] at h
              obtain ⟨hb, rfl⟩ := h
              simp only [Nat.beq_eq] at hsz
              subst hsz
              rcases hmx with ⟨_, rfl⟩ | ⟨_, _, e, _⟩
              · refine ⟨_, run_sliceAt_sl Ti hd Te (run_sliceBounds hlo hhi hb hle), ?_⟩
                unfold bndOk at hb
                simp only [Bool.and_eq_true, decide_eq_true_eq] at hb
                unfold VR
                refine ⟨b, _, _, t', n, r1, rfl, by omega, fun hp => ?_, hs, fun hp => ?_⟩
                · rw [if_neg (by omega), ha (by omega)]
                  simp only [Option.map_some, add_off]
                · have := hn (by omega)
                  have e1 : cap * ei.size = (lo'.getD 0).toNat * ei.size + (cap - (lo'.getD 0).toNat) * ei.size := by
                    rw [← Nat.add_mul]; congr 1; omega
                  omega
              · cases e
        · rename_i b
          have hx' := hx
          unfold VR at hx'
          obtain ⟨A, rfl, hA⟩ := hx'
          split at h
          · split at h
            · simp only [Option.some.injEq, Prod.mk.injEq, Bool.and_eq_true, decide_eq_true_eq] at h
              obtain ⟨⟨rfl, rfl⟩, rfl⟩ := h
              rcases hlo with ⟨_, rfl⟩ | ⟨_, _, e, _⟩
              · rcases hhi with ⟨e, _⟩ | ⟨k1, m1, e, rfl⟩
                · cases e
                · cases e
                  rcases hmx with ⟨e, _⟩ | ⟨k2, m2, e, rfl⟩
                  · cases e
                  · cases e
                    exact ⟨_, run_sliceAt_sl Ti hd Te (run_sliceBounds3 rfl rfl rfl), by unfold VR; exact ⟨A, by simp, hA⟩⟩
              · cases e
            · cases h
          · simp only [Option.some.injEq, Prod.mk.injEq] at h
            obtain ⟨hb, rfl⟩ := h
            rcases hmx with ⟨_, rfl⟩ | ⟨_, _, e, _⟩
            · refine ⟨_, run_sliceAt_sl Ti hd Te (run_sliceBounds hlo hhi hb (Nat.le_refl 0)), ?_⟩
              unfold bndOk at hb
              simp only [Bool.and_eq_true, decide_eq_true_eq] at hb
              have e1 : (lo'.getD 0).toNat = 0 := by omega
              have e2 : (hi'.getD ((0 : Nat) : Int)).toNat = 0 := by show (hi'.getD 0).toNat = 0; omega
              unfold VR
              exact ⟨A, by rw [e1, e2]; simp, hA⟩
            · cases e
        · cases h
    · cases h
end
end Go.Abs

set_option linter.unusedVariables false
set_option linter.unusedSimpArgs false
namespace Go.Abs
open Go.RowKit
section
variable {P : Program} {E : Env} {ρ : Nat → Option Nat} {own : Nat → Prop} {w : World} {t : Nat → AV} {a : Act}

theorem idxOk_iff {n : Int} {len : Nat} : idxOk n len = true ↔ 0 ≤ n ∧ n < (len : Int) := by simp [idxOk]

theorem indexAddrA_sound (hT : TyAll P E) {ty : TypeId} {x i v : AV} (h : indexAddrA E ty x i = some (true, v)) {cx ci : Value} (hx : VR ρ own w x cx) (hi : VR ρ own w i ci) :
    ∃ cv, (Instr.indexAt ty cx ci).run P w = .ok cv w ∧ VR ρ own w v cv := by
  unfold indexAddrA at h
  split at h
  · rename_i ti k n h0
    have Ti := hT ty ti h0
    obtain ⟨d, hd1, hd2⟩ := Ti.d
    rw [vint] at hi
    subst hi
    split at h
    · rename_i e hd
      rw [hd] at hd2
      cases d <;> simp [descOk] at hd2
      subst hd2
      split at h
      · rename_i ei he
        have Te := hT _ ei he
        split at h
        · rename_i β sz off len
          cases hsz : Nat.beq sz ei.size with
          | false => rw [hsz] at h; cases h
          | true =>
            rw [hsz] at h
            simp only [cond_true, Option.some.injEq, Prod.mk.injEq, idxOk_iff] at h
            obtain ⟨⟨h1, h2⟩, rfl⟩ := h
            simp only [Nat.beq_eq] at hsz
            subst hsz
            unfold VR at hx
            obtain ⟨b, A, cap, t', m, r1, rfl, hle, ha, hs, hn⟩ := hx
            rw [ha (by omega)]
            refine ⟨_, by simp [Instr.indexAt, asIntOf, run_underlying hd1, h1, h2, run_sizeOf' Te]; rfl, ?_⟩
            unfold VR
            exact ⟨b, r1, by rw [add_off]⟩
        · rename_i sz xs
          cases hsz : Nat.beq sz ei.size with
          | false => rw [hsz] at h; cases h
          | true =>
            rw [hsz] at h
            simp only [cond_true, Option.some.injEq, Prod.mk.injEq, idxOk_iff] at h
            obtain ⟨⟨h1, h2⟩, rfl⟩ := h
            simp only [Nat.beq_eq] at hsz
            subst hsz
            unfold VR at hx
            obtain ⟨A, cap, rfl, hle, hr⟩ := hx
            obtain ⟨ad, rfl, hR⟩ := hr (by omega)
            refine ⟨_, by simp [Instr.indexAt, asIntOf, run_underlying hd1, h1, h2, run_sizeOf' Te]; rfl, ?_⟩
            have hg : xs[n.toNat]? = some (xs.getD n.toNat []) := by
              rw [List.getD_eq_getElem?_getD, List.getElem?_eq_getElem (by omega)]
              rfl
            obtain ⟨_, k2⟩ := hR.get hg
            unfold VR
            exact ⟨_, rfl, CR.shift (by simpa using k2)⟩
        · cases h
      · cases h
    · rename_i len e hd
      rw [hd] at hd2
      cases d <;> simp [descOk] at hd2
      obtain ⟨rfl, rfl⟩ := hd2
      split at h
      · rename_i ei he
        have Te := hT _ ei he
        split at h
        · rename_i β off
          simp only [Option.some.injEq, Prod.mk.injEq, idxOk_iff] at h
          obtain ⟨⟨h1, h2⟩, rfl⟩ := h
          unfold VR at hx
          obtain ⟨b, r1, rfl⟩ := hx
          refine ⟨_, by simp [Instr.indexAt, asIntOf, run_underlying hd1, Instr.sureAddr, h1, h2, run_sizeOf' Te]; rfl, ?_⟩
          unfold VR
          exact ⟨b, r1, by rw [add_off]⟩
        · rename_i cs
          simp only [Option.some.injEq, Prod.mk.injEq, idxOk_iff] at h
          obtain ⟨⟨h1, h2⟩, rfl⟩ := h
          unfold VR at hx
          obtain ⟨ad, rfl, hR⟩ := hx
          refine ⟨_, by simp [Instr.indexAt, asIntOf, run_underlying hd1, Instr.sureAddr, h1, h2, run_sizeOf' Te]; rfl, ?_⟩
          unfold VR
          exact ⟨_, rfl, hR.drop⟩
        · cases h
      · cases h
    · cases h
  · cases h

theorem fieldAddrA_sound (hT : TyAll P E) {ty : TypeId} {x v : AV} {f : Nat} (h : fieldAddrA E ty x f = some v) {cx : Value} (hx : VR ρ own w x cx) :
    ∃ cv, (Instr.fieldAt ty cx f).run P w = .ok cv w ∧ VR ρ own w v cv := by
  unfold fieldAddrA at h
  split at h
  · rename_i o ho
    unfold fieldOff at ho
    split at ho
    · rename_i ti h0
      have Ti := hT ty ti h0
      obtain ⟨d, hd1, hd2⟩ := Ti.d
      split at ho
      · rename_i fs hd
        rw [hd] at hd2
        cases d <;> simp [descOk] at hd2
        rename_i fields
        split at ho
        · rename_i ft o' hf
          split at ho
          · rename_i fi hfi
            have Tf := hT ft fi hfi
            cases hz : Nat.beq fi.size 0 with
            | true => rw [hz] at ho; cases ho
            | false =>
              rw [hz] at ho
              simp only [cond_false, Option.some.injEq] at ho
              subst ho
              have hz' : ¬ fi.size = 0 := by
                intro e
                rw [e] at hz
                cases hz
              subst hd2
              rw [List.getElem?_map, Option.map_eq_some_iff] at hf
              obtain ⟨fld, hf1, hf2⟩ := hf
              cases hf2
              have hf1' : fields[f]? = some fld := by simpa using hf1
              have place : ∀ ad : Addr, (fieldPlace ad fld).run P w = .ok (ad.add fld.offset) w := fun ad => by
                simp [fieldPlace, run_sizeOf' Tf, hz']
              split at h
              · simp only [Option.some.injEq] at h
                subst h
                unfold VR at hx
                obtain ⟨b, r1, rfl⟩ := hx
                refine ⟨_, by simp [Instr.fieldAt, run_underlying hd1, hf1', Instr.sureAddr, place]; rfl, ?_⟩
                unfold VR
                exact ⟨b, r1, by rw [add_off]⟩
              · simp only [Option.some.injEq] at h
                subst h
                unfold VR at hx
                obtain ⟨ad, rfl, hR⟩ := hx
                refine ⟨_, by simp [Instr.fieldAt, run_underlying hd1, hf1', Instr.sureAddr, place]; rfl, ?_⟩
                unfold VR
                exact ⟨_, rfl, hR.drop⟩
              · cases h
          · cases ho
        · cases ho
      · cases ho
    · cases ho
  · cases h

theorem noTup_eq {o : Option AV} {v : AV} (h : o.bind noTup = some v) : o = some v ∧ noTup v = some v := by
  cases o with
  | none => cases h
  | some u =>
    simp only [Option.bind_some] at h
    cases u <;> simp [noTup] at h <;> subst h <;> exact ⟨rfl, rfl⟩
theorem evParts_sound (T : TR ρ own w t a) : ∀ {l : List (Nat × Operand)} {ps : List (Nat × AV)}, evParts t l = some ps →
    ∃ cs : List (Nat × Value), cs = l.map (fun (i, x) => (i, a.eval x)) ∧ cs.length = ps.length ∧ (∀ (j : Nat) (i : Nat) (v : AV), ps[j]? = some (i, v) → ∃ cv, cs[j]? = some (i, cv) ∧ VR ρ own w v cv) ∧ ∀ (i : Nat) (v : AV), (i, v) ∈ ps → noTup v = some v
  | [], _, h => by simp only [evParts, Option.some.injEq] at h; subst h; exact ⟨[], rfl, rfl, by simp, by simp⟩
  | (i, x) :: r, _, h => by
    simp only [evParts] at h
    split at h
    · rename_i v l h1 h2
      simp only [Option.some.injEq] at h
      subst h
      obtain ⟨h1, h3⟩ := noTup_eq h1
      obtain ⟨cs, rfl, k1, k2, k3⟩ := evParts_sound T h2
      refine ⟨_, rfl, by simpa using k1, fun j i' u hj => ?_, fun i' l' hm => ?_⟩
      · cases j with
        | zero => simp at hj; obtain ⟨rfl, rfl⟩ := hj; exact ⟨_, rfl, ev_sound T h1⟩
        | succ j => simpa using k2 j i' u (by simpa using hj)
      · simp only [List.mem_cons, Prod.mk.injEq] at hm
        rcases hm with ⟨_, rfl⟩ | hm
        · exact h3
        · exact k3 i' l' hm
    · cases h

/-- The machine's filling, as the abstract one does it. -/
theorem fill_foldl (v : List Value) : ∀ (k off : Nat) (cells : Array Value), (v.zipIdx k).foldl (fun cs (p : Value × Nat) => cs.setIfInBounds (off + p.2) p.1) cells = (v.zipIdx k).foldl (fun cs (p : Value × Nat) => cs.setIfInBounds (off + p.2) p.1) cells := fun _ _ _ => rfl

theorem fold_rel : ∀ (as : List AV) (vs : List Value) (k off : Nat) (cells : List AV) (cc : Array Value), LR ρ own w as vs → (∀ x ∈ vs, x.oneCell' = true) → LR ρ own w cells cc.toList → (∀ x ∈ cc.toList, x.oneCell' = true) →
    LR ρ own w (setCells cells (off + k) as) ((vs.zipIdx k).foldl (fun cs (p : Value × Nat) => cs.setIfInBounds (off + p.2) p.1) cc).toList ∧
    ∀ x ∈ ((vs.zipIdx k).foldl (fun cs (p : Value × Nat) => cs.setIfInBounds (off + p.2) p.1) cc).toList, x.oneCell' = true
  | [], vs, k, off, cells, cc, hv, h1, hc, h2 => by
    unfold LR at hv
    subst hv
    exact ⟨by simpa [setCells_nil] using hc, by simpa using h2⟩
  | x :: as, _, k, off, cells, cc, hv, h1, hc, h2 => by
    unfold LR at hv
    obtain ⟨v, r, rfl, hv1, hv2⟩ := hv
    rw [List.zipIdx_cons, List.foldl_cons, setCells_cons]
    have hset : LR ρ own w (cells.set (off + k) x) (cc.setIfInBounds (off + k) v).toList := by
      rw [Array.toList_setIfInBounds]
      refine LR.of (by simpa using hc.length) fun i y hy => ?_
      rw [List.getElem?_set] at hy ⊢
      have hl := hc.length
      split at hy
      · rename_i e
        subst e
        split at hy
        · cases hy
          exact ⟨v, by rw [if_pos rfl, if_pos (by omega)], hv1⟩
        · cases hy
      · rename_i e
        obtain ⟨u, hu1, hu2⟩ := hc.get hy
        exact ⟨u, by rw [if_neg e]; exact hu1, hu2⟩
    have h1' : ∀ y ∈ (cc.setIfInBounds (off + k) v).toList, y.oneCell' = true := by
      intro y hy
      rw [Array.toList_setIfInBounds] at hy
      rcases List.mem_or_eq_of_mem_set hy with hy | rfl
      · exact h2 y hy
      · exact h1 y (by simp)
    have := fold_rel as r (k + 1) off (cells.set (off + k) x) (cc.setIfInBounds (off + k) v) hv2 (fun y hy => h1 y (by simp [hy])) hset h1'
    rwa [← Nat.add_assoc] at this

theorem fillA_sound {place : Nat → Option (Nat × Nat)} : ∀ {ps : List (Nat × AV)} {cs : List (Nat × Value)} {cells out : List AV} {cc : Array Value},
    cs.length = ps.length → (∀ (j : Nat) (i : Nat) (v : AV), ps[j]? = some (i, v) → ∃ cv, cs[j]? = some (i, cv) ∧ VR ρ own w v cv) → (∀ (i : Nat) (v : AV), (i, v) ∈ ps → noTup v = some v) →
    LR ρ own w cells cc.toList → (∀ x ∈ cc.toList, x.oneCell' = true) → fillA place cells ps = some out →
    ∃ oc, Instr.fill place cc cs = some oc ∧ LR ρ own w out oc.toList ∧ ∀ x ∈ oc.toList, x.oneCell' = true
  | [], cs, cells, out, cc, hl, _, _, hc, h2, h => by
    simp only [List.length_nil] at hl
    obtain rfl := List.eq_nil_of_length_eq_zero hl
    simp only [fillA, Option.some.injEq] at h
    subst h
    exact ⟨cc, rfl, hc, h2⟩
  | (i, v) :: ps, cs, cells, out, cc, hl, hp, ht, hc, h2, h => by
    obtain ⟨cv, k1, k2⟩ := hp 0 i v rfl
    cases cs with
    | nil => simp at hl
    | cons c cs =>
      simp at k1
      subst k1
      simp only [fillA] at h
      split at h
      · cases h
      · rename_i off size hpl
        cases hb : (Nat.beq v.cells.length size && Nat.ble (off + size) cells.length) with
        | false => rw [hb] at h; cases h
        | true =>
          rw [hb] at h
          simp only [Bool.and_eq_true, Nat.beq_eq] at hb
          have hb2 := Nat.le_of_ble_eq_true hb.2
          simp only [cond_true] at h
          obtain ⟨c1, c2⟩ := cells_rel k2 (ht i v (by simp))
          have hl1 := c1.length
          have hl2 := hc.length
          have := fold_rel v.cells cv.cells.toList 0 off cells cc c1 c2 hc h2
          have hsz : cv.cells.size = size := by rw [← hb.1, hl1]; simp
          have hfo : (cv.cells.zipIdx.foldl (fun cs (p : Value × Nat) => cs.setIfInBounds (off + p.2) p.1) cc) = (cv.cells.toList.zipIdx 0).foldl (fun cs (p : Value × Nat) => cs.setIfInBounds (off + p.2) p.1) cc := by
            rw [← Array.foldl_toList]
            simp
          obtain ⟨oc, o1, o2, o3⟩ := fillA_sound (place := place) (ps := ps) (cs := cs) (cells := setCells cells off v.cells) (out := out)
            (cc := (cv.cells.zipIdx.foldl (fun cs (p : Value × Nat) => cs.setIfInBounds (off + p.2) p.1) cc)) (by simpa using hl) (fun j i' u hj => by simpa using hp (j + 1) i' u (by simpa using hj))
            (fun i' l hm => ht i' l (by simp [hm])) (by rw [hfo]; simpa using this.1) (by rw [hfo]; simpa using this.2) h
          refine ⟨oc, ?_, o2, o3⟩
          simp only [Instr.fill, hpl]
          have hcc : cc.size = cells.length := by rw [hl2]; simp
          rw [if_neg (by simp [hsz, hcc]; omega)]
          exact o1

theorem ty_zero {ty : TypeId} {i : TI} (T : TyOk P ty i) : ∃ z : Value, (zeroValue ty).run P w = .ok z w ∧ LR ρ own w i.zero z.cells.toList ∧ (∀ x ∈ z.cells.toList, x.oneCell' = true) ∧ z.cells.size = i.size := by
  obtain ⟨f, z, h1, h2, h3, h4, h5, h6⟩ := T.info
  have hl := ofVs_rel ρ own w _ _ h5
  exact ⟨z, by simp [zeroValue, run_typeInfo' h1, h4], hl, (fun x hx => (Array.all_eq_true_iff_forall_mem.1 h6) x (by simpa using hx)), by rw [← T.zero, hl.length]; simp⟩

theorem mapM_places (hT : TyAll P E) : ∀ (fs : List Field), (∀ f ∈ fs, (E.ty f.type).isSome = true) →
    (fs.mapM (fun (f : Field) => (do pure (f.offset, ← sizeOf f.type) : Sem (Nat × Nat)))).run P w = .ok (fs.map fun f => (f.offset, szE E f.type)) w
  | [], _ => by simp
  | f :: fs, h => by
    obtain ⟨i, hi⟩ := Option.isSome_iff_exists.1 (h f (by simp))
    have ih := mapM_places hT fs fun g hg => h g (by simp [hg])
    rw [List.mapM_cons, Sem.run_bind, Sem.run_bind, run_sizeOf' (hT _ _ hi)]
    simp only [Result.andThen_ok, Sem.run_pure, Sem.run_bind]
    rw [ih]
    simp [szE, hi]

theorem buildA_sound (hT : TyAll P E) {ty : TypeId} {ps : List (Nat × AV)} {v : AV} (h : buildA E ty ps = some v) {cs : List (Nat × Value)} (hl : cs.length = ps.length)
    (hp : ∀ (j : Nat) (i : Nat) (v : AV), ps[j]? = some (i, v) → ∃ cv, cs[j]? = some (i, cv) ∧ VR ρ own w v cv) (ht : ∀ (i : Nat) (v : AV), (i, v) ∈ ps → noTup v = some v) :
    ∃ cv, (Instr.build ty cs.toArray).run P w = .ok cv w ∧ VR ρ own w v cv := by
  unfold buildA at h
  split at h
  · rename_i ti h0
    have Ti := hT ty ti h0
    obtain ⟨d, hd1, hd2⟩ := Ti.d
    obtain ⟨z, z1, z2, z3, z4⟩ := ty_zero (P := P) (ρ := ρ) (own := own) (w := w) Ti
    split at h
    · rename_i fs hd
      rw [hd] at hd2
      cases d <;> simp [descOk] at hd2
      rename_i fields
      cases hall : (fs.all fun f => (E.ty f.1).isSome) with
      | false => rw [hall] at h; cases h
      | true =>
        rw [hall] at h
        simp only [cond_true, Option.map_eq_some_iff] at h
        obtain ⟨out, h1, rfl⟩ := h
        have hm := mapM_places (w := w) hT fields.toList (fun f hf => by
          subst hd2
          simp only [List.all_map, List.all_eq_true] at hall
          exact hall f hf)
        have hpl : (fun (i : Nat) => (fs[i]?).map fun (f : TypeId × Nat) => (f.2, szE E f.1)) = fun (i : Nat) => ((fields.toList.map fun f => (f.offset, szE E f.type)).toArray)[i]? := by
          funext i
          subst hd2
          simp
          rfl
        rw [hpl] at h1
        obtain ⟨oc, o1, o2, o3⟩ := fillA_sound hl hp ht z2 z3 h1
        refine ⟨.agg oc, ?_, by unfold VR; exact ⟨oc, rfl, o2, o3⟩⟩
        have hm' : (fields.mapM (fun (f : Field) => (do pure (f.offset, ← sizeOf f.type) : Sem (Nat × Nat)))).run P w = .ok (fields.toList.map fun f => (f.offset, szE E f.type)).toArray w := by
          rw [Array.mapM_eq_mapM_toList, Sem.run_map, hm]
          rfl
        simp only [Instr.build, Sem.run_bind, z1, Result.andThen_ok, run_underlying hd1, hm', o1, Sem.run_pure]
    · rename_i n e hd
      rw [hd] at hd2
      cases d <;> simp [descOk] at hd2
      obtain ⟨rfl, rfl⟩ := hd2
      split at h
      · rename_i ei he
        have Te := hT _ ei he
        simp only [Option.map_eq_some_iff] at h
        obtain ⟨out, h1, rfl⟩ := h
        obtain ⟨oc, o1, o2, o3⟩ := fillA_sound hl hp ht z2 z3 h1
        refine ⟨.agg oc, ?_, by unfold VR; exact ⟨oc, rfl, o2, o3⟩⟩
        simp only [Instr.build, Sem.run_bind, z1, Result.andThen_ok, run_underlying hd1, run_sizeOf' Te, o1, Sem.run_pure]
      · cases h
    · cases h
  · cases h
end
end Go.Abs

set_option linter.unusedVariables false
set_option linter.unusedSimpArgs false
namespace Go.Abs
open Go.RowKit
section
variable {P : Program} {E : Env} {ρ : Nat → Option Nat} {own : Nat → Prop} {w : World} {t : Nat → AV} {a : Act}

theorem run_builtin_value {c : Call} {b : Builtin} (hc : c.callee = .builtin b) {type : TypeId} {ρo : Operand → Value} {s : Array Bool → Sem Value} {v : Value} {w' : World}
    (hb : ∀ consts, builtin b c.argTypes type consts (c.args.map ρo) = (do pure (.value (← s consts)))) (hs : ∀ k, (s k).run P w = .ok v w') :
    (do let d ← resolve ρo c type; invoke d.target d.args).run P w = .ok (.value v) w' := by
  unfold resolve
  simp only [hc, Sem.run_bind, Sem.run_pure, Result.andThen_ok, invoke, hb, hs]

theorem pickA_sound {c x y v : AV} (h : pickA c x y = some v) {cc cx cy : Value} (hc : VR ρ own w c cc) (hx : VR ρ own w x cx) (hy : VR ρ own w y cy) :
    ∃ cv, (do pure (.value (if ← asBool cc then cx else cy)) : Sem Next).run P w = .ok (.value cv) w ∧ VR ρ own w v cv := by
  unfold pickA at h
  split at h
  · rename_i b
    rw [vbool] at hc
    subst hc
    have hr : (do pure (.value (if ← asBool (.bool b) then cx else cy)) : Sem Next).run P w = .ok (.value (if b then cx else cy)) w := by simp [asBool]
    refine ⟨_, hr, ?_⟩
    split at h
    · rename_i p q
      simp only [Option.some.injEq] at h
      subst h
      rw [vbool] at hx hy
      subst hx hy
      rw [vbool]
      cases b <;> rfl
    · simp only [Option.some.injEq] at h
      subst h
      cases b <;> simp [hx, hy]
  · cases h

/-- THE PURE OPERATIONS. -/
theorem pureA0_sound (hT : TyAll P E) (hQ : EqAll P E) (T : TR ρ own w t a) {o : Oper} {v : AV} (h : pureA0 E t o = some (true, v)) :
    ∃ cv, (execOp a.eval o).run P w = .ok (.value cv) w ∧ VR ρ own w v cv := by
  have wrap : ∀ s : Sem Value, (∃ cv, s.run P w = .ok cv w ∧ VR ρ own w v cv) → ∃ cv, (do pure (.value (← s)) : Sem Next).run P w = .ok (.value cv) w ∧ VR ρ own w v cv := by
    rintro s ⟨cv, h1, h2⟩
    exact ⟨cv, by simp [h1], h2⟩
  unfold pureA0 at h
  split at h
  · rename_i x hop
    simp only [Option.map_eq_some_iff, Prod.mk.injEq, true_and, exists_eq_right] at h
    exact ⟨_, by unfold execOp; rw [hop]; rfl, ev_sound T h⟩
  · rename_i x hop
    simp only [Option.map_eq_some_iff, Prod.mk.injEq, true_and, exists_eq_right] at h
    exact ⟨_, by unfold execOp; rw [hop]; rfl, ev_sound T h⟩
  · rename_i c x y hop
    split at h
    · rename_i c' x' y' h1 h2 h3
      simp only [Option.map_eq_some_iff, Prod.mk.injEq, true_and, exists_eq_right] at h
      unfold execOp
      rw [hop]
      exact pickA_sound h (ev_sound T h1) (ev_sound T h2) (ev_sound T h3)
    · cases h
  · rename_i ty ps hop
    split at h
    · rename_i l hl
      simp only [Option.map_eq_some_iff, Prod.mk.injEq, true_and, exists_eq_right] at h
      obtain ⟨cs, rfl, k1, k2, k3⟩ := evParts_sound T hl
      obtain ⟨cv, c1, c2⟩ := buildA_sound hT h k1 k2 k3
      unfold execOp
      rw [hop]
      refine wrap _ ⟨cv, ?_, c2⟩
      have : (ps.map fun (i, x) => (i, a.eval x)) = (ps.toList.map fun (i, x) => (i, a.eval x)).toArray := by apply Array.ext'; simp
      show (Instr.build ty (ps.map fun (i, x) => (i, a.eval x))).run P w = _
      rw [this]
      exact c1
    · cases h
  · rename_i x hop
    split at h
    · rename_i β o hx
      simp only [Option.some.injEq, Prod.mk.injEq, true_and] at h
      subst h
      have hv := ev_sound T hx
      have hv' := hv
      unfold VR at hv'
      obtain ⟨b, _, e⟩ := hv'
      refine ⟨_, ?_, hv⟩
      unfold execOp
      rw [hop]
      simp only [e]
      rfl
    · rename_i cs hx
      simp only [Option.some.injEq, Prod.mk.injEq, true_and] at h
      subst h
      have hv := ev_sound T hx
      have hv' := hv
      unfold VR at hv'
      obtain ⟨b, e, _⟩ := hv'
      refine ⟨_, ?_, hv⟩
      unfold execOp
      rw [hop]
      simp only [e]
      rfl
    · rename_i f x' c hx
      split at h
      · simp only [Option.some.injEq, Prod.mk.injEq, true_and] at h
        subst h
        have hv := ev_sound T hx
        have hv' := hv
        unfold VR at hv'
        obtain ⟨a', c', e, _⟩ := hv'
        refine ⟨_, ?_, hv⟩
        unfold execOp
        rw [hop]
        simp only [e]
        rfl
      · cases h
    · cases h
  · rename_i op ty x y yt hop
    split at h
    · rename_i x' y' h1 h2
      unfold execOp
      rw [hop]
      exact wrap _ (binA_sound hT hQ h (ev_sound T h1) (ev_sound T h2) x y)
    · cases h
  · rename_i op ty x hop
    split at h
    · rename_i b hx
      simp only [Option.some.injEq, Prod.mk.injEq, true_and] at h
      subst h
      have hv := ev_sound T hx
      rw [vbool] at hv
      unfold execOp
      rw [hop]
      exact wrap _ ⟨_, by rw [hv]; rfl, vbool.2 rfl⟩
    · rename_i k n hx
      simp only [Option.some.injEq, Prod.mk.injEq, true_and] at h
      subst h
      have hv := ev_sound T hx
      rw [vint] at hv
      unfold execOp
      rw [hop]
      exact wrap _ ⟨_, by rw [hv]; rfl, vint.2 rfl⟩
    · cases h
  · rename_i src dst x hop
    split at h
    · rename_i si ti k n h1 h2 hx
      obtain ⟨ds, s1, _⟩ := (hT _ _ h1).d
      obtain ⟨dd, d1, d2⟩ := (hT _ _ h2).d
      have hv := ev_sound T hx
      rw [vint] at hv
      split at h
      · rename_i k' hd
        simp only [Option.some.injEq, Prod.mk.injEq, true_and] at h
        subst h
        rw [hd] at d2
        cases dd <;> simp [descOk] at d2
        subst d2
        unfold execOp
        rw [hop]
        refine wrap _ ⟨_, ?_, vint.2 rfl⟩
        simp only [hv, Go.convert, Sem.run_bind, run_underlying s1, run_underlying d1, Result.andThen_ok]
        rfl
      · cases h
    · rename_i si ti s h1 h2 hx
      obtain ⟨ds, s1, _⟩ := (hT _ _ h1).d
      obtain ⟨dd, d1, d2⟩ := (hT _ _ h2).d
      have hv := ev_sound T hx
      split at h
      · rename_i hd
        simp only [Option.some.injEq, Prod.mk.injEq, true_and] at h
        subst h
        rw [hd] at d2
        cases dd <;> simp [descOk] at d2
        unfold execOp
        rw [hop]
        refine wrap _ ⟨_, ?_, hv⟩
        rw [vstr] at hv
        simp only [hv, Go.convert, Sem.run_bind, run_underlying s1, run_underlying d1, Result.andThen_ok]
        rfl
      · cases h
    · cases h
  · rename_i ty x hop
    split at h
    · rename_i ti v' h1 hx
      obtain ⟨dd, d1, d2⟩ := (hT _ _ h1).d
      have hv := ev_sound T hx
      split at h
      · cases h
      · rename_i hd
        simp only [Option.some.injEq, Prod.mk.injEq, true_and] at h
        subst h
        unfold execOp
        rw [hop]
        refine wrap _ ⟨.iface ty (a.eval x), ?_, by unfold VR; exact ⟨_, rfl, hv⟩⟩
        simp only [Instr.makeInterface, Sem.run_bind, run_underlying d1, Result.andThen_ok]
        cases dd <;> first | rfl | (simp [descOk] at d2; split at d2 <;> simp_all)
    · cases h
  · rename_i f fs cs hop
    split at h
    · rename_i l1 l2 h1 h2
      simp only [Option.some.injEq, Prod.mk.injEq, true_and] at h
      subst h
      unfold execOp
      rw [hop]
      refine wrap _ ⟨_, rfl, ?_⟩
      unfold VR
      exact ⟨_, _, rfl, by simpa using evs_sound T h1, by simpa using evs_sound T h2⟩
    · cases h
  · rename_i ty x lo hi mx hop
    split at h
    · rename_i x' lo' hi' mx' h1 h2 h3 h4
      unfold execOp
      rw [hop]
      exact wrap _ (sliceA_sound hT h (ev_sound T h1) (boundA_sound T h2) (boundA_sound T h3) (boundA_sound T h4))
    · cases h
  · rename_i s x f hop
    split at h
    · rename_i x' hx
      simp only [Option.map_eq_some_iff, Prod.mk.injEq, true_and, exists_eq_right] at h
      unfold execOp
      rw [hop]
      exact wrap _ (fieldAddrA_sound hT h (ev_sound T hx))
    · cases h
  · rename_i ty x i hop
    split at h
    · rename_i x' i' h1 h2
      unfold execOp
      rw [hop]
      exact wrap _ (indexAddrA_sound hT h (ev_sound T h1) (ev_sound T h2))
    · cases h
  · rename_i ty x i hop
    split at h
    · rename_i ti s k n h0 h1 h2
      obtain ⟨dd, d1, d2⟩ := (hT _ _ h0).d
      split at h
      · rename_i hd
        simp only [Option.some.injEq, Prod.mk.injEq, idxOk_iff] at h
        obtain ⟨⟨h3, h4⟩, rfl⟩ := h
        rw [hd] at d2
        cases dd <;> simp [descOk] at d2
        have v1 := ev_sound T h1
        have v2 := ev_sound T h2
        rw [vstr] at v1
        rw [vint] at v2
        unfold execOp
        rw [hop]
        refine wrap _ ⟨_, ?_, vint.2 rfl⟩
        have hlt : n.toNat < s.length := by omega
        have hb : (⟨s.toArray⟩ : ByteArray)[n.toNat]? = some (s.getD n.toNat 0) := by
          rw [List.getD_eq_getElem?_getD, List.getElem?_eq_getElem hlt]
          rw [getElem?_pos _ _ (by rw [size_mk]; exact hlt)]
          rfl
        simp only [v1, v2, Instr.index, asIntOf, Sem.run_bind, Sem.run_pure, Result.andThen_ok, run_underlying d1, if_pos h3, hb]
      · cases h
    · cases h
  · rename_i x i hop
    split at h
    · rename_i vs hx
      simp only [Option.map_eq_some_iff, Prod.mk.injEq, true_and, exists_eq_right] at h
      have hv := ev_sound T hx
      unfold VR at hv
      obtain ⟨c, e, hl⟩ := hv
      obtain ⟨cv, c1, c2⟩ := hl.get h
      unfold execOp
      rw [hop]
      refine wrap _ ⟨cv, ?_, c2⟩
      have c1' : c[i]? = some cv := by simpa using c1
      simp only [e, Instr.extract, c1', Sem.run_pure]
    · cases h
  · rename_i b args argTypes hop
    have hargs : ∀ {l : List AV}, evs t args.toList = some l → LR ρ own w l (args.map a.eval).toList := fun hl => by
      rw [Array.toList_map]
      exact evs_sound T hl
    unfold execOp
    rw [hop]
    have fin : ∀ {b : Builtin} {s : Sem Value}, (∀ consts, Go.builtin b argTypes o.type consts (args.map a.eval) = (do pure (.value (← s)))) → (∃ cv, s.run P w = .ok cv w ∧ VR ρ own w v cv) →
        ∃ cv, (do let d ← resolve a.eval { callee := .builtin b, args := args, argTypes := argTypes } o.type; invoke d.target d.args).run P w = .ok (.value cv) w ∧ VR ρ own w v cv := by
      rintro b s hb ⟨cv, h1, h2⟩
      exact ⟨cv, run_builtin_value (s := fun _ => s) rfl hb fun _ => h1, h2⟩
    split at h
    · rename_i x hl
      have hl' := hargs hl
      unfold LR at hl'
      obtain ⟨cv, r, e, hv, hr⟩ := hl'
      unfold LR at hr
      subst hr
      have e' : args.map a.eval = #[cv] := Array.ext' e
      refine fin (s := Builtin.len_ argTypes o.type (args.map a.eval)) (fun _ => rfl) ?_
      rw [e']
      split at h
      · rename_i ti hti
        cases h0 : argTypes[0]? with
        | none => rw [h0] at hti; cases hti
        | some ty =>
          rw [h0] at hti
          simp only [Option.bind_some] at hti
          obtain ⟨dd, d1, d2⟩ := (hT _ _ hti).d
          split at h
          · rename_i s hd
            simp only [Option.some.injEq, Prod.mk.injEq, true_and] at h
            subst h
            rw [hd] at d2
            cases dd <;> simp [descOk] at d2
            rw [vstr] at hv
            subst hv
            exact ⟨_, by simp [Builtin.len_, h0, run_underlying d1, size_mk, goInt], vint.2 rfl⟩
          · rename_i e sz xs hd
            simp only [Option.some.injEq, Prod.mk.injEq, true_and] at h
            subst h
            rw [hd] at d2
            cases dd <;> simp [descOk] at d2
            unfold VR at hv
            obtain ⟨A, cap, rfl, _⟩ := hv
            exact ⟨_, by simp [Builtin.len_, h0, run_underlying d1, goInt], vint.2 rfl⟩
          · rename_i e β sz off n hd
            simp only [Option.some.injEq, Prod.mk.injEq, true_and] at h
            subst h
            rw [hd] at d2
            cases dd <;> simp [descOk] at d2
            unfold VR at hv
            obtain ⟨_, A, cap, _, _, _, rfl, _⟩ := hv
            exact ⟨_, by simp [Builtin.len_, h0, run_underlying d1, goInt], vint.2 rfl⟩
          · rename_i e b hd
            simp only [Option.some.injEq, Prod.mk.injEq, true_and] at h
            subst h
            rw [hd] at d2
            cases dd <;> simp [descOk] at d2
            unfold VR at hv
            obtain ⟨A, rfl, _⟩ := hv
            exact ⟨_, by simp [Builtin.len_, h0, run_underlying d1, goInt], vint.2 rfl⟩
          · cases h
      · cases h
    · rename_i k x k' y hl
      simp only [Option.some.injEq, Prod.mk.injEq, true_and] at h
      subst h
      have hl' := hargs hl
      unfold LR at hl'
      obtain ⟨c1, r, e, hv, hr⟩ := hl'
      unfold LR at hr
      obtain ⟨c2, r', e2, hv2, hr2⟩ := hr
      unfold LR at hr2
      subst hr2
      subst e2
      rw [vint] at hv hv2
      subst hv hv2
      have e' : args.map a.eval = #[.int k x, .int k' y] := Array.ext' e
      refine fin (s := Builtin.min_ argTypes o.type (args.map a.eval)) (fun _ => rfl) ?_
      rw [e']
      refine ⟨_, by simp [Builtin.min_, Builtin.min2]; rfl, vint.2 ?_⟩
      by_cases hh : y < x <;> simp [hh]
    · rename_i k x k' y hl
      simp only [Option.some.injEq, Prod.mk.injEq, true_and] at h
      subst h
      have hl' := hargs hl
      unfold LR at hl'
      obtain ⟨c1, r, e, hv, hr⟩ := hl'
      unfold LR at hr
      obtain ⟨c2, r', e2, hv2, hr2⟩ := hr
      unfold LR at hr2
      subst hr2
      subst e2
      rw [vint] at hv hv2
      subst hv hv2
      have e' : args.map a.eval = #[.int k x, .int k' y] := Array.ext' e
      refine fin (s := Builtin.max_ argTypes o.type (args.map a.eval)) (fun _ => rfl) ?_
      rw [e']
      refine ⟨_, by simp [Builtin.max_, Builtin.max2]; rfl, vint.2 ?_⟩
      by_cases hh : x < y <;> simp [hh]
    · cases h
  · cases h
end
end Go.Abs

set_option linter.unusedVariables false
set_option linter.unusedSimpArgs false
namespace Go.Abs
open Go.RowKit
section
variable {P : Program} {E : Env} {ρ : Nat → Option Nat} {own : Nat → Prop} {w : World} {t : Nat → AV} {a : Act}

theorem isPtrT_run (hT : TyAll P E) {ty : TypeId} (h : isPtrT E ty = true) : ∃ e f, P.underlying ty = some (.pointer e) ∧ P.info? e = some f := by
  unfold isPtrT at h
  split at h
  · rename_i i hi
    obtain ⟨d, d1, d2⟩ := (hT _ _ hi).d
    split at h
    · rename_i e hd
      rw [hd] at d2
      cases d <;> simp [descOk] at d2
      subst d2
      cases he : E.ty _ with
      | none => rw [he] at h; cases h
      | some ei =>
        obtain ⟨f, z, f1, _⟩ := (hT _ _ he).info
        exact ⟨_, f, d1, f1⟩
    · cases h
  · cases h

theorem part_sound (hT : TyAll P E) {e : TypeId} {ei : TI} (he : E.ty e = some ei) {cs : List AV} {c : Array Value} {off : Nat} (hl : LR ρ own w cs c.toList) (h1 : ∀ x ∈ c.toList, x.oneCell' = true) (ho : off + ei.size ≤ cs.length) (hp : 0 < ei.size) :
    ∃ cv, (part e c off).run P w = .ok cv w ∧ VR ρ own w (partA ei cs off) cv := by
  have Te := hT _ _ he
  unfold part partA
  rw [Sem.run_bind, run_isAgg' Te]
  simp only [Result.andThen_ok]
  cases ha : ei.isAgg with
  | true =>
    simp only [if_true, cond_true]
    refine ⟨.agg (c.extract off (off + ei.size)), by simp [run_sizeOf' Te], ?_⟩
    unfold VR
    refine ⟨_, rfl, ?_, fun x hx => h1 x ?_⟩
    · rw [Array.toList_extract]
      simp only [List.extract, Nat.add_sub_cancel_left]
      exact (hl.drop off).take _
    · rw [Array.toList_extract] at hx
      simp only [List.extract] at hx
      exact List.mem_of_mem_drop (List.mem_of_mem_take hx)
  | false =>
    simp only [Bool.false_eq_true, if_false, cond_false]
    have hlt : off < cs.length := by omega
    obtain ⟨v, v1, v2⟩ := hl.get (List.getElem?_eq_getElem hlt)
    have v1' : c[off]? = some v := by simpa using v1
    refine ⟨v, by rw [v1']; simp, ?_⟩
    rw [List.drop_eq_getElem_cons hlt]
    exact v2

theorem pureX_sound (hT : TyAll P E) (T : TR ρ own w t a) {o : Oper} {v : AV} (h : pureX E t o = some (true, v)) :
    ∃ cv, (execOp a.eval o).run P w = .ok (.value cv) w ∧ VR ρ own w v cv := by
  have wrap : ∀ s : Sem Value, (∃ cv, s.run P w = .ok cv w ∧ VR ρ own w v cv) → ∃ cv, (do pure (.value (← s)) : Sem Next).run P w = .ok (.value cv) w ∧ VR ρ own w v cv := by
    rintro s ⟨cv, h1, h2⟩
    exact ⟨cv, by simp [h1], h2⟩
  unfold pureX at h
  split at h
  · rename_i op ty x y yt hop
    split at h
    · rename_i β o1 γ o2 hx hy
      cases hc : (Nat.beq β γ && Nat.beq o1 o2 && isPtrT E ty) with
      | false => rw [hc] at h; cases h
      | true =>
        rw [hc] at h
        simp only [cond_true] at h
        simp only [Bool.and_eq_true, Nat.beq_eq] at hc
        obtain ⟨⟨rfl, rfl⟩, hp⟩ := hc
        obtain ⟨e, f, p1, p2⟩ := isPtrT_run hT hp
        have v1 := ev_sound T hx
        have v2 := ev_sound T hy
        unfold VR at v1 v2
        obtain ⟨b, r1, e1⟩ := v1
        obtain ⟨b', r2, e2⟩ := v2
        rw [r1] at r2
        cases r2
        unfold execOp
        rw [hop]
        refine wrap _ ?_
        split at h
        · simp only [Option.some.injEq, Prod.mk.injEq, true_and] at h
          subst h
          refine ⟨.bool true, ?_, vbool.2 rfl⟩
          have := run_eql_ptr_same (P := P) w ⟨b, o1, none⟩ p1 p2
          simp [e1, e2, this, eqGuard]
        · simp only [Option.some.injEq, Prod.mk.injEq, true_and] at h
          subst h
          refine ⟨.bool false, ?_, vbool.2 rfl⟩
          have := Lib.run_neq_ptr_same (P := P) w ⟨b, o1, none⟩ p1 p2
          simp [e1, e2, this, eqGuard]
        · cases h
    · cases h
  · rename_i ty x i hop
    split at h
    · rename_i ti cs k n hti hx hi
      split at h
      · rename_i len e hd
        split at h
        · rename_i ei he
          simp only [Option.some.injEq, Prod.mk.injEq, Bool.and_eq_true, idxOk_iff] at h
          obtain ⟨⟨⟨hn0, hn1⟩, hsz⟩, rfl⟩ := h
          obtain ⟨dd, d1, d2⟩ := (hT _ _ hti).d
          rw [hd] at d2
          cases dd <;> simp [descOk] at d2
          obtain ⟨q1, q2⟩ := d2
          rw [q1, q2] at d1
          have v1 := ev_sound T hx
          have v2 := ev_sound T hi
          rw [vint] at v2
          unfold VR at v1
          obtain ⟨c, e1, l1, l2⟩ := v1
          have hpos : 0 < ei.size ∨ ei.size = 0 := by omega
          have Te := hT _ _ he
          unfold execOp
          rw [hop]
          refine wrap _ ?_
          have hps : 0 < ei.size ∨ ei.isAgg = true := by
            cases ha : ei.isAgg with
            | true => exact .inr rfl
            | false => exact .inl (by rw [Te.one ha]; exact Nat.one_pos)
          have key : ∃ cv, (part e c (n.toNat * ei.size)).run P w = .ok cv w ∧ VR ρ own w (partA ei cs (n.toNat * ei.size)) cv := by
            rcases Nat.eq_zero_or_pos ei.size with h0 | h0
            · rcases hps with h1 | h1
              · omega
              · unfold part partA
                rw [Sem.run_bind, run_isAgg' Te, h1]
                simp only [Result.andThen_ok, if_true, cond_true]
                refine ⟨.agg (c.extract (n.toNat * ei.size) (n.toNat * ei.size + ei.size)), by simp [run_sizeOf' Te], ?_⟩
                unfold VR
                refine ⟨_, rfl, ?_, fun x hx => l2 x ?_⟩
                · rw [Array.toList_extract]
                  simp only [List.extract, Nat.add_sub_cancel_left]
                  exact (l1.drop _).take _
                · rw [Array.toList_extract] at hx
                  simp only [List.extract] at hx
                  exact List.mem_of_mem_drop (List.mem_of_mem_take hx)
            · exact part_sound hT he l1 l2 (Nat.le_of_ble_eq_true hsz) h0
          obtain ⟨cv, c1, c2⟩ := key
          refine ⟨cv, ?_, c2⟩
          simp only [e1, v2, Instr.index, asIntOf, Sem.run_bind, Sem.run_pure, Result.andThen_ok, run_underlying d1, if_pos (And.intro hn0 hn1), run_sizeOf' Te, c1]
        · cases h
      · cases h
    · cases h
  · rename_i b args argTypes hop
    have hargs : ∀ {l : List AV}, evs t args.toList = some l → LR ρ own w l (args.map a.eval).toList := fun hl => by
      rw [Array.toList_map]
      exact evs_sound T hl
    unfold execOp
    rw [hop]
    have fin : ∀ {b : Builtin} {s : Sem Value}, (∀ consts, Go.builtin b argTypes o.type consts (args.map a.eval) = (do pure (.value (← s)))) → (∃ cv, s.run P w = .ok cv w ∧ VR ρ own w v cv) →
        ∃ cv, (do let d ← resolve a.eval { callee := .builtin b, args := args, argTypes := argTypes } o.type; invoke d.target d.args).run P w = .ok (.value cv) w ∧ VR ρ own w v cv := by
      rintro b s hb ⟨cv, h1, h2⟩
      exact ⟨cv, run_builtin_value (s := fun _ => s) rfl hb fun _ => h1, h2⟩
    split at h
    · rename_i b hl
      have hl' := hargs hl
      unfold LR at hl'
      obtain ⟨cv, r, e, hv, hr⟩ := hl'
      unfold LR at hr
      subst hr
      have e' : args.map a.eval = #[cv] := Array.ext' e
      cases hc : isListT E argTypes[0]? with
      | false => rw [hc] at h; cases h
      | true =>
        rw [hc] at h
        simp only [cond_true, Option.some.injEq, Prod.mk.injEq, true_and] at h
        subst h
        unfold isListT at hc
        refine fin (s := Builtin.cap_ argTypes o.type (args.map a.eval)) (fun _ => rfl) ?_
        rw [e']
        cases h0 : argTypes[0]? with
        | none => rw [h0] at hc; cases hc
        | some ty =>
          rw [h0] at hc
          simp only [Option.bind_some] at hc
          split at hc
          · rename_i i hi
            obtain ⟨dd, d1, d2⟩ := (hT _ _ hi).d
            split at hc
            · rename_i e hd
              rw [hd] at d2
              cases dd <;> simp [descOk] at d2
              unfold VR at hv
              obtain ⟨A, rfl, _⟩ := hv
              exact ⟨.int .i64 0, by simp [Builtin.cap_, h0, run_underlying d1, goInt], vint.2 rfl⟩
            · cases hc
          · cases hc
    · rename_i β sz off len hl
      have hl' := hargs hl
      unfold LR at hl'
      obtain ⟨cv, r, e, hv, hr⟩ := hl'
      unfold LR at hr
      subst hr
      have e' : args.map a.eval = #[cv] := Array.ext' e
      simp only [Option.some.injEq, Prod.mk.injEq] at h
      obtain ⟨hlen, rfl⟩ := h
      have hlen' : 0 < len := by simpa using hlen
      refine fin (s := Builtin.unsafeSliceData_ argTypes o.type (args.map a.eval)) (fun _ => rfl) ?_
      rw [e']
      unfold VR at hv
      obtain ⟨b, A, cap, ty, n, r1, rfl, hlc, hA, _⟩ := hv
      rw [hA (by omega)]
      refine ⟨_, Lib.run_unsafeSliceData_row w argTypes o.type ⟨b, off, none⟩ len cap (by omega), ?_⟩
      unfold VR
      exact ⟨b, r1, rfl⟩
    · rename_i b hl
      have hl' := hargs hl
      unfold LR at hl'
      obtain ⟨cv, r, e, hv, hr⟩ := hl'
      unfold LR at hr
      subst hr
      have e' : args.map a.eval = #[cv] := Array.ext' e
      cases b with
      | false => cases h
      | true =>
        simp only [cond_true, Option.some.injEq, Prod.mk.injEq, true_and] at h
        subst h
        refine fin (s := Builtin.unsafeSliceData_ argTypes o.type (args.map a.eval)) (fun _ => rfl) ?_
        rw [e']
        unfold VR at hv
        obtain ⟨A, rfl, hA⟩ := hv
        rw [hA rfl]
        exact ⟨.pointer none, Lib.run_unsafeSliceData_nil w argTypes o.type 0 0, by unfold VR; rfl⟩
    · rename_i n hl
      have hl' := hargs hl
      unfold LR at hl'
      obtain ⟨c1, r, e, hv1, hr⟩ := hl'
      unfold LR at hr
      obtain ⟨c2, r', e2, hv2, hr2⟩ := hr
      unfold LR at hr2
      subst hr2
      subst e2
      have e' : args.map a.eval = #[c1, c2] := Array.ext' e
      cases hs : Nat.beq argTypes.size 2 with
      | false => rw [hs] at h; cases h
      | true =>
        rw [hs] at h
        simp only [cond_true, Option.some.injEq, Prod.mk.injEq, decide_eq_true_eq] at h
        obtain ⟨rfl, rfl⟩ := h
        simp only [Nat.beq_eq] at hs
        have h2 : ∃ p q, argTypes = #[p, q] := by
          obtain ⟨l⟩ := argTypes
          match l, hs with
          | [p, q], _ => exact ⟨p, q, rfl⟩
        obtain ⟨p, q, rfl⟩ := h2
        refine fin (s := Builtin.unsafeString_ #[p, q] o.type (args.map a.eval)) (fun _ => rfl) ?_
        rw [e']
        unfold VR at hv1
        rw [vint] at hv2
        subst hv1
        subst hv2
        exact ⟨_, Lib.run_unsafeString_none w p q o.type none, vstr.2 rfl⟩
    · cases h
  · cases h

theorem pureA_sound (hT : TyAll P E) (hQ : EqAll P E) (T : TR ρ own w t a) {o : Oper} {v : AV} (h : pureA E t o = some (true, v)) :
    ∃ cv, (execOp a.eval o).run P w = .ok (.value cv) w ∧ VR ρ own w v cv := by
  unfold pureA at h
  split at h
  · rename_i r hr
    simp only [Option.some.injEq] at h
    subst h
    exact pureA0_sound hT hQ T hr
  · exact pureX_sound hT T h
end
end Go.Abs
