import Derived.Test.YtaifmmemfmapkaaGreatAbsFd
import Derived.Test.YtaifmmemfmapkaaGreatAbsB
import Derived.Deep.Slices
set_option linter.unusedVariables false
namespace Go.Abs
open Go.RowKit Go.ChangeShapes Go.Deep
/-- Whatever reads as of the type e is opened: sz cells, of which Q holds. -/
def Opens {H : Type} (enc : TypeId × Value → H) (P : Program) (w : World) (e : TypeId) (sz : Nat) (Q : List AV → Prop) : Prop :=
  ∀ (fuel : Nat) (cs : List Value) (x : DataW H × List MemPlace), DataW.trod enc P w 0 (fun _ => true) true fuel e cs = some x →
    cs.length = sz ∧ (∀ v ∈ cs, v.oneCell' = true) ∧ ∃ avs, LR (fun _ => none) (fun _ => False) w avs cs ∧ Q avs
section
variable {H : Type} {enc : TypeId × Value → H} {P : Program} {w : World}
def QB (a : List AV) : Prop := ∃ b, a = [.bool b]
def QI (k : IntKind) (a : List AV) : Prop := ∃ n, a = [.int k n]
def QS (a : List AV) : Prop := ∃ s, a = [.str s]
def QSl (sz : Nat) (Q : List AV → Prop) (a : List AV) : Prop := ∃ v, a = [v] ∧ ((∃ b, v = .emp b) ∨ ∃ xs : List (List AV), v = .row sz xs ∧ xs.length ≤ maxLen ∧ ∀ x ∈ xs, Q x)
def QCat : List (List AV → Prop) → List AV → Prop
  | [], a => a = []
  | q :: qs, a => ∃ x y, a = x ++ y ∧ q x ∧ QCat qs y
theorem opens_bool {t : TypeId} (ht : P.underlying t = some .bool) : Opens enc P w t 1 QB := by
  intro fuel cs x h
  obtain ⟨b, rfl, _⟩ := DataW.trod_bool ht h
  refine ⟨rfl, ?_, [.bool b], ?_, b, rfl⟩
  · intro v hv; simp only [List.mem_singleton] at hv; subst hv; rfl
  · unfold LR; exact ⟨_, _, rfl, by unfold VR; rfl, by unfold LR; rfl⟩
theorem opens_int {t : TypeId} {k : IntKind} (ht : P.underlying t = some (.int k)) : Opens enc P w t 1 (QI k) := by
  intro fuel cs x h
  obtain ⟨n, rfl, _, _⟩ := DataW.trod_int ht h
  refine ⟨rfl, ?_, [.int k n], ?_, n, rfl⟩
  · intro v hv; simp only [List.mem_singleton] at hv; subst hv; rfl
  · unfold LR; exact ⟨_, _, rfl, by unfold VR; rfl, by unfold LR; rfl⟩
theorem opens_str {t : TypeId} (ht : P.underlying t = some .string) : Opens enc P w t 1 QS := by
  intro fuel cs x h
  obtain ⟨s, rfl, _, _⟩ := DataW.trod_string ht h
  refine ⟨rfl, ?_, [.str s.data.toList], ?_, s.data.toList, rfl⟩
  · intro v hv; simp only [List.mem_singleton] at hv; subst hv; rfl
  · unfold LR; exact ⟨_, _, rfl, by unfold VR; rfl, by unfold LR; rfl⟩
theorem cr_of {a : Addr} : ∀ {avs : List AV} {cs : List Value} (i : Nat), LR (fun _ => none) (fun _ => False) w avs cs → (∀ v ∈ cs, v.oneCell' = true) → (∀ j, j < cs.length → w.cell? (a.add (i + j)) = cs[j]?) →
    CR (fun _ => none) (fun _ => False) w a i avs
  | [], cs, i, _, _, _ => by unfold CR; trivial
  | c :: avs, cs, i, hl, ho, hc => by
    unfold LR at hl
    obtain ⟨v, r, rfl, hv, hr⟩ := hl
    unfold CR
    refine ⟨⟨v, by have := hc 0 (by simp); simpa using this, fun h => h, hv, ho v (by simp)⟩, cr_of (i + 1) hr (fun v hv => ho v (by simp [hv])) fun j hj => ?_⟩
    have := hc (j + 1) (by simpa using hj)
    rw [show i + 1 + j = i + (j + 1) by omega, this]; simp
theorem rr_of {a : Addr} {sz : Nat} : ∀ (X : List (List AV)) (i : Nat), (∀ j (hj : j < X.length), (X[j]'hj).length = sz ∧ CR (fun _ => none) (fun _ => False) w a ((i + j) * sz) (X[j]'hj)) → RR (fun _ => none) (fun _ => False) w a sz i X
  | [], i, _ => by unfold RR; trivial
  | x :: X, i, h => by
    unfold RR
    refine ⟨by have := h 0 (by simp); simpa using this, rr_of X (i + 1) fun j hj => ?_⟩
    have := h (j + 1) (by simpa using hj)
    rw [show i + 1 + j = i + (j + 1) by omega]
    simpa using this
theorem opens_sl {t e : TypeId} {sz : Nat} {Q : List AV → Prop} (ht : P.underlying t = some (.slice e)) (hc : P.cellsOf e = sz) (he : Opens enc P w e sz Q) : Opens enc P w t 1 (QSl sz Q) := by
  intro fuel cs x h
  rcases open_slice ht h with ⟨rfl, _⟩ | ⟨a, len, cap, m, n, D, Pl, rfl, hb, hl, hm, hmm, _, hx⟩
  · refine ⟨rfl, ?_, [.emp true], ?_, .emp true, rfl, .inl ⟨_, rfl⟩⟩
    · intro v hv; simp only [List.mem_singleton] at hv; subst hv; rfl
    · unfold LR; exact ⟨_, _, rfl, by unfold VR; exact ⟨none, rfl, fun _ => rfl⟩, by unfold LR; rfl⟩
  · have hlm : len ≤ m := by rw [hmm]; simpa using hl
    obtain ⟨f, hf⟩ := choose_lt (n := len) (p := fun i (y : List AV) => Q y ∧ y.length = sz ∧ CR (fun _ => none) (fun _ => False) w a (i * sz) y) (fun i hi => by
      obtain ⟨cs', h1, h2⟩ := hx i (by omega)
      obtain ⟨k1, k2, avs, k3, k4⟩ := he _ _ _ h2
      obtain ⟨_, hlen, hcell⟩ := World.cells?_some h1
      refine ⟨avs, k4, ?_, ?_⟩
      · rw [LR.length k3, k1]
      · refine cr_of (i * sz) k3 k2 fun j hj => ?_
        have := hcell j (by omega)
        rw [add_add, hc] at this
        exact this)
    refine ⟨rfl, ?_, [.row sz ((List.range len).map f)], ?_, _, rfl, .inr ⟨_, rfl, by simp; omega, ?_⟩⟩
    · intro v hv; simp only [List.mem_singleton] at hv; subst hv; rfl
    · unfold LR
      refine ⟨_, _, rfl, ?_, by unfold LR; rfl⟩
      unfold VR
      refine ⟨some a, cap, by simp, by simpa using hl, fun h0 => ⟨a, rfl, rr_of _ 0 fun j hj => ?_⟩⟩
      have hj' : j < len := by simpa using hj
      simp only [List.getElem_map, List.getElem_range, Nat.zero_add]
      exact (hf j hj').2
    · intro x hx
      simp only [List.mem_map, List.mem_range] at hx
      obtain ⟨i, hi, rfl⟩ := hx
      exact (hf i hi).1
/-- the fields of a struct, one behind the other -/
inductive Fields (enc : TypeId × Value → H) (P : Program) (w : World) : Nat → List Field → Nat → List (List AV → Prop) → Prop
  | nil (o : Nat) : Fields enc P w o [] o []
  | cons {o o' sz : Nat} {f : Field} {fs : List Field} {q : List AV → Prop} {qs : List (List AV → Prop)} (ho : f.offset = o) (hz : P.cellsOf f.type = sz) (hq : Opens enc P w f.type sz q) (h : Fields enc P w (o + sz) fs o' qs) : Fields enc P w o (f :: fs) o' (q :: qs)
theorem fields_ok {cs : List Value} : ∀ {o o' : Nat} {fs : List Field} {qs : List (List AV → Prop)}, Fields enc P w o fs o' qs → cs.length = o' →
    (∀ f ∈ fs, ∃ n x, DataW.trod enc P w 0 (fun _ => true) true n f.type ((cs.drop f.offset).take (P.cellsOf f.type)) = some x) →
    (∀ v ∈ cs.drop o, v.oneCell' = true) ∧ ∃ avs, LR (fun _ => none) (fun _ => False) w avs (cs.drop o) ∧ QCat qs avs
  | o, _, _, _, .nil _, hl, _ => by
    rw [List.drop_of_length_le (by omega)]
    exact ⟨(fun v hv => nomatch hv), [], by unfold LR; rfl, rfl⟩
  | o, _, f :: fs, q :: qs, .cons (sz := sz) ho hz hq h, hl, hf => by
    obtain ⟨k1, avs, k2, k3⟩ := fields_ok h hl fun g hg => hf g (by simp [hg])
    obtain ⟨n, x, hx⟩ := hf f (by simp)
    obtain ⟨j1, j2, av, j3, j4⟩ := hq _ _ _ hx
    rw [ho, hz] at j2 j3
    have e : cs.drop o = (cs.drop o).take sz ++ cs.drop (o + sz) := by rw [← List.drop_drop, List.take_append_drop]
    refine ⟨fun v hv => ?_, av ++ avs, ?_, av, avs, rfl, j4, k3⟩
    · rw [e, List.mem_append] at hv
      exact hv.elim (j2 v) (k1 v)
    · rw [e]; exact LR.append j3 k2
theorem opens_struct {t : TypeId} {fs : Array Field} {sz : Nat} {qs : List (List AV → Prop)} (ht : P.underlying t = some (.struct fs)) (hz : P.cellsOf t = sz) (h : Fields enc P w 0 fs.toList sz qs) : Opens enc P w t sz (QCat qs) := by
  intro fuel cs x hx
  obtain ⟨xs, n, _, _, hlen, hxl, hf⟩ := DataW.trod_struct ht hx
  obtain ⟨k1, k2⟩ := fields_ok h (hlen.trans hz) fun f hf' => by
    obtain ⟨i, hi, rfl⟩ := List.getElem_of_mem hf'
    have hi' : i < fs.size := by simpa using hi
    have := hf i fs[i] (by simp [hi'])
    rw [List.getElem?_eq_getElem (by omega)] at this
    exact ⟨n, _, by simpa using this⟩
  exact ⟨hlen.trans hz, k1, k2⟩
end
end Go.Abs
