import Derived.Test.YtaifmmemfmapkaaGreatAbsB
import Derived.Laws.BytesArg
import Derived.Lib.ConvBytes
import Derived.Laws.MakeOwn
import Derived.Laws.Append
import Derived.MapKept
set_option linter.unusedVariables false
set_option linter.unusedSimpArgs false
namespace Go.Abs
open Go.RowKit
section
variable {P : Program} {E : Env} {B : Nat} {ρ : Nat → Option Nat} {own : Nat → Prop} {w : World} {t : Nat → AV} {a : Act} {h : Heap}

theorem block_cells (H : HR B ρ own w h) {β : Nat} {ro : Bool} {ty : TypeId} {cs : List AV} (hβ : h.at β = .cells ro ty cs) :
    ∃ b n, ρ β = some b ∧ w.shape? b = some (ty, n) ∧ cs.length ≤ n ∧ Cells ρ own w ⟨b, 0, none⟩ cs ∧ (ro = false → own b) := by
  have hb := H.blk β
  rw [hβ] at hb
  obtain ⟨b, n, h1, h2, h3, h4, h5, _⟩ := hb
  refine ⟨b, n, h1, h2, h3, fun j x hx => ?_, fun hr => (h5 hr).1⟩
  obtain ⟨v, k1, k2⟩ := h4 j x hx
  exact ⟨v, by rw [add_off, Nat.zero_add]; exact k1, k2⟩

theorem loadA_sound (hT : TyAll P E) (H : HR B ρ own w h) (T : TR ρ own w t a) {o : Oper} {β : Option Nat} {v : AV} (hl : loadA E t o h = some (β, true, v)) :
    ∃ cv, (execOp a.eval o).run P w = .ok (.value cv) w ∧ VR ρ own w v cv := by
  unfold loadA at hl
  split at hl
  · rename_i ty x hop
    have wrap : ∀ s : Sem Value, (∃ cv, s.run P w = .ok cv w ∧ VR ρ own w v cv) → ∃ cv, (do pure (.value (← s)) : Sem Next).run P w = .ok (.value cv) w ∧ VR ρ own w v cv := by
      rintro s ⟨cv, h1, h2⟩
      exact ⟨cv, by simp [h1], h2⟩
    unfold execOp
    rw [hop]
    refine wrap _ ?_
    split at hl
    · rename_i ti β' off h1 hx
      split at hl
      · rename_i ro ty' cs hβ
        simp only [Option.some.injEq, Prod.mk.injEq] at hl
        obtain ⟨b, n, r1, _, _, hc, _⟩ := block_cells H hβ
        have hv := ev_sound T hx
        unfold VR at hv
        obtain ⟨b', r2, e⟩ := hv
        rw [r1] at r2
        cases r2
        have hc' : Cells ρ own w ⟨b, off, none⟩ (cs.drop off) := by
          have := hc.drop (k := off)
          rwa [add_off, Nat.zero_add] at this
        obtain ⟨cv, c1, c2⟩ := loadFrom_sound (hT _ _ h1) hc' (v := v) hl.2
        exact ⟨cv, by simp [e, Instr.loadAt, Instr.sureAddr, c1], c2⟩
      · cases hl
    · rename_i ti cs h1 hx
      simp only [Option.some.injEq, Prod.mk.injEq] at hl
      have hv := ev_sound T hx
      unfold VR at hv
      obtain ⟨ad, e, hR⟩ := hv
      obtain ⟨cv, c1, c2⟩ := loadFrom_sound (hT _ _ h1) hR.cells (v := v) hl.2
      exact ⟨cv, by simp [e, Instr.loadAt, Instr.sureAddr, c1], c2⟩
    · cases hl
  · cases hl

/-- What is known behind an operation that turns the heap. -/
def ActOk (P : Program) (B : Nat) (ρ : Nat → Option Nat) (own : Nat → Prop) (w : World) (s : Sem Next) (v : AV) (h' : Heap) : Prop :=
  ∃ n w' ρ' own' cv, s.run P w = .ok n w' ∧ (n = .value cv ∨ (n = .skip ∧ cv = undef)) ∧ HR B ρ' own' w' h' ∧ Ext B ρ own w ρ' own' w' ∧ VR ρ' own' w' v cv

theorem actOk_value {s : Sem Value} {v : AV} {h' : Heap} (x : ∃ w' ρ' own' cv, s.run P w = .ok cv w' ∧ HR B ρ' own' w' h' ∧ Ext B ρ own w ρ' own' w' ∧ VR ρ' own' w' v cv) :
    ActOk P B ρ own w (do pure (.value (← s))) v h' := by
  obtain ⟨w', ρ', own', cv, h1, h2, h3, h4⟩ := x
  exact ⟨.value cv, w', ρ', own', cv, by simp [h1], .inl rfl, h2, h3, h4⟩

/-- A new block of given cells, a pointer to it. -/
theorem new_ptr (H : HR B ρ own w h) (c : Array Value) (ty : TypeId) (cs : List AV) (hl : LR ρ own w cs c.toList) (h1 : ∀ x ∈ c.toList, x.oneCell' = true) :
    HR B (renNew ρ h.length w.heap.size) (ownNew own w.heap.size) (w.alloc (.cells c ty)) (h ++ [.cells false ty cs]) ∧ Ext B ρ own w (renNew ρ h.length w.heap.size) (ownNew own w.heap.size) (w.alloc (.cells c ty)) ∧
      VR (renNew ρ h.length w.heap.size) (ownNew own w.heap.size) (w.alloc (.cells c ty)) (.ptr h.length 0) (.pointer (some ⟨w.heap.size, 0, none⟩)) := by
  refine ⟨hr_alloc H c ty (0, 0) cs (.inl (Nat.le_refl _)) (by have := hl.length; simp at this; omega) (fun i x hx => ?_), ext_alloc H _, ?_⟩
  · obtain ⟨v, k1, k2⟩ := hl.get hx
    exact ⟨v, by simpa using k1, k2, h1 v (List.mem_of_getElem? k1)⟩
  · unfold VR
    exact ⟨w.heap.size, by simp [renNew], rfl⟩
/-- The same, a slice over it. -/
theorem new_sl (H : HR B ρ own w h) (c : Array Value) (ty : TypeId) (fr : Nat × Nat) (cs : List AV) (hfr : fr.2 ≤ fr.1 ∨ c.size ≤ fr.1) (vs : List Value) (hl : LR ρ own w cs vs) (hv : ∀ (i : Nat) (v : Value), vs[i]? = some v → c[i]? = some v) (hlen : vs.length ≤ c.size) (h1 : ∀ x ∈ vs, x.oneCell' = true) {len cap sz : Nat} (hc : len ≤ cap) (hs : cap * sz ≤ c.size) :
    HR B (renNew ρ h.length w.heap.size) (ownNew own w.heap.size) (w.alloc (.cells c ty fr)) (h ++ [.cells false ty cs]) ∧ Ext B ρ own w (renNew ρ h.length w.heap.size) (ownNew own w.heap.size) (w.alloc (.cells c ty fr)) ∧
      VR (renNew ρ h.length w.heap.size) (ownNew own w.heap.size) (w.alloc (.cells c ty fr)) (.sl h.length sz 0 len) (.slice (some ⟨w.heap.size, 0, none⟩) len cap) := by
  refine ⟨hr_alloc H c ty fr cs hfr (by rw [hl.length]; exact hlen) (fun i x hx => ?_), ext_alloc H _, ?_⟩
  · obtain ⟨v, k1, k2⟩ := hl.get hx
    exact ⟨v, hv _ _ k1, k2, h1 v (List.mem_of_getElem? k1)⟩
  · unfold VR
    exact ⟨w.heap.size, _, cap, ty, c.size, by simp [renNew], rfl, hc, fun _ => rfl, shape_of_heap (heap_alloc_new _ _), fun _ => by omega⟩

theorem zeros_get (z : List AV) : ∀ (n i : Nat), i < n * z.length → (zerosOf n z)[i]? = z[i % z.length]?
  | 0, i, h => by simp at h
  | n + 1, i, h => by
    unfold zerosOf
    rw [List.replicate_succ, List.flatten_cons]
    by_cases hi : i < z.length
    · rw [List.getElem?_append_left hi, Nat.mod_eq_of_lt hi]
    · rw [List.getElem?_append_right (by omega)]
      have := zeros_get z n (i - z.length) (by rw [Nat.add_mul] at h; omega)
      unfold zerosOf at this
      rw [this, ← Nat.mod_eq_sub_mod (by omega)]
theorem zeros_length (n : Nat) (z : List AV) : (zerosOf n z).length = n * z.length := by simp [zerosOf, List.length_flatten]

theorem zeros_rel {z : List AV} {zc : Array Value} (hl : LR ρ own w z zc.toList) (h1 : ∀ x ∈ zc.toList, x.oneCell' = true) (n : Nat) {m : Nat} (hm : m = n * zc.size) :
    LR ρ own w (zerosOf n z) ((Array.range m).map (zc[· % zc.size]!)).toList ∧ ∀ x ∈ ((Array.range m).map (zc[· % zc.size]!)).toList, x.oneCell' = true := by
  have hzl : z.length = zc.size := by simpa using hl.length
  subst hm
  constructor
  · refine LR.of (by simp [zeros_length, hzl]) fun i x hx => ?_
    have hi : i < n * zc.size := by
      have := (List.getElem?_eq_some_iff.1 hx).1
      rwa [zeros_length, hzl] at this
    rw [zeros_get z n i (by rwa [hzl]), hzl] at hx
    obtain ⟨v, k1, k2⟩ := hl.get hx
    refine ⟨v, ?_, k2⟩
    have hpos : 0 < zc.size := by
      rcases Nat.eq_zero_or_pos zc.size with e | e
      · rw [e] at hi; simp at hi
      · exact e
    have hlt : i % zc.size < zc.size := Nat.mod_lt _ hpos
    have k1' : zc[i % zc.size]? = some v := by simpa using k1
    have k3 : zc[i % zc.size] = v := by
      rw [Array.getElem?_eq_getElem hlt] at k1'
      exact Option.some.inj k1'
    simp [hi, hlt, k3]
  · intro x hx
    simp only [Array.toList_map, Array.toList_range, List.mem_map, List.mem_range] at hx
    obtain ⟨i, hi, rfl⟩ := hx
    have hpos : 0 < zc.size := by
      rcases Nat.eq_zero_or_pos zc.size with e | e
      · rw [e] at hi; simp at hi
      · exact e
    have hlt : i % zc.size < zc.size := Nat.mod_lt _ hpos
    rw [getElem!_pos zc _ hlt]
    exact h1 _ (by simp)

end
end Go.Abs

set_option linter.unusedVariables false
set_option linter.unusedSimpArgs false
namespace Go.Abs
open Go.RowKit
section
variable {P : Program} {E : Env} {B : Nat} {ρ : Nat → Option Nat} {own : Nat → Prop} {w : World} {t : Nat → AV} {a : Act} {h : Heap}

theorem RR.flat {ad : Addr} {sz : Nat} : ∀ {i : Nat} {xs : List (List AV)}, RR ρ own w ad sz i xs → CR ρ own w ad (i * sz) xs.flatten ∧ xs.flatten.length = xs.length * sz
  | _, [], _ => ⟨by unfold CR; trivial, by simp⟩
  | i, x :: xs, h => by
    unfold RR at h
    obtain ⟨⟨h1, h2⟩, h3⟩ := h
    obtain ⟨k1, k2⟩ := RR.flat h3
    constructor
    · refine CR.of fun j c hc => ?_
      rw [List.flatten_cons] at hc
      by_cases hj : j < x.length
      · rw [List.getElem?_append_left hj] at hc
        exact h2.get hc
      · rw [List.getElem?_append_right (by omega)] at hc
        have := k1.get hc
        rwa [show (i + 1) * sz + (j - x.length) = i * sz + j by rw [Nat.add_mul]; omega] at this
    · rw [List.flatten_cons, List.length_append, k2, h1, List.length_cons, Nat.add_mul]; omega

theorem Cells.values {ad : Addr} {cs : List AV} (hc : Cells ρ own w ad cs) : ∃ vs : List Value, LR ρ own w cs vs ∧ (∀ x ∈ vs, x.oneCell' = true) ∧ ∀ (j : Nat) (v : Value), vs[j]? = some v → w.cell? (ad.add j) = some v := by
  have build : ∀ (as : List AV) (k : Nat), (∀ (j : Nat) (x : AV), as[j]? = some x → ∃ v, w.cell? (ad.add (k + j)) = some v ∧ VR ρ own w x v ∧ v.oneCell' = true) →
      ∃ vs : List Value, LR ρ own w as vs ∧ (∀ x ∈ vs, x.oneCell' = true) ∧ ∀ (j : Nat) (v : Value), vs[j]? = some v → w.cell? (ad.add (k + j)) = some v := by
    intro as
    induction as with
    | nil => intro k _; exact ⟨[], by unfold LR; rfl, by simp, by simp⟩
    | cons a as ih =>
      intro k hk
      obtain ⟨v, v1, v2, v3⟩ := hk 0 a rfl
      obtain ⟨vs, k2, k3, k4⟩ := ih (k + 1) (fun j x hx => by have := hk (j + 1) x (by simpa using hx); rwa [show k + (j + 1) = k + 1 + j by omega] at this)
      refine ⟨v :: vs, by unfold LR; exact ⟨v, vs, rfl, v2, k2⟩, by intro x hx; simp at hx; rcases hx with rfl | hx; exact v3; exact k3 x hx, fun j u hu => ?_⟩
      cases j with
      | zero => simp at hu; subst hu; exact v1
      | succ j => simp at hu; have := k4 j u hu; rwa [show k + 1 + j = k + (j + 1) by omega] at this
  obtain ⟨vs, k2, k3, k4⟩ := build cs 0 (fun j x hx => by simpa using hc j x hx)
  exact ⟨vs, k2, k3, fun j v hv => by simpa using k4 j v hv⟩

/-- What is appended, or read as bytes. -/
theorem src_sound (H : HR B ρ own w h) {sz n : Nat} {x : AV} {cs : List AV} {cx : Value} (hs : srcCells sz h x = some (true, n, cs)) (hx : VR ρ own w x cx) :
    ∃ vs : List Value, LR ρ own w cs vs ∧ (∀ u ∈ vs, u.oneCell' = true) ∧ vs.length = n * sz ∧ (Builtin.lenOf cx).run P w = .ok n w ∧ (Builtin.firstCells sz n cx).run P w = .ok vs.toArray w ∧
      ((∃ A cap, cx = .slice A n cap ∧ (0 < n → ∃ ad, A = some ad ∧ ∀ (j : Nat) (v : Value), vs[j]? = some v → w.cell? (ad.add j) = some v)) ∨ ∃ s, cx = .string s) := by
  unfold srcCells at hs
  split at hs
  · simp only [Option.some.injEq, Prod.mk.injEq, true_and] at hs
    obtain ⟨rfl, rfl⟩ := hs
    unfold VR at hx
    obtain ⟨A, rfl, _⟩ := hx
    refine ⟨[], by unfold LR; rfl, by simp, by simp, rfl, ?_, .inl ⟨A, 0, rfl, fun h => by omega⟩⟩
    cases A with
    | none => rfl
    | some ad => simp [Builtin.firstCells, loadCells, loadCellsFrom]
  · rename_i sz' xs
    cases hb : Nat.beq sz sz' with
    | false => rw [hb] at hs; cases hs
    | true =>
      rw [hb] at hs
      simp only [cond_true, Option.some.injEq, Prod.mk.injEq, true_and] at hs
      obtain ⟨rfl, rfl⟩ := hs
      simp only [Nat.beq_eq] at hb
      subst hb
      unfold VR at hx
      obtain ⟨A, cap, rfl, hle, hr⟩ := hx
      rcases Nat.eq_zero_or_pos xs.length with h0 | h0
      · obtain rfl := List.eq_nil_of_length_eq_zero h0
        refine ⟨[], by unfold LR; rfl, by simp, by simp, rfl, ?_, .inl ⟨A, cap, rfl, fun h => by simp at h⟩⟩
        cases A with
        | none => rfl
        | some ad => simp [Builtin.firstCells, loadCells, loadCellsFrom]
      · obtain ⟨ad, rfl, hR⟩ := hr h0
        obtain ⟨k1, k2⟩ := hR.flat
        rw [Nat.zero_mul] at k1
        obtain ⟨vs, v1, v2, v3⟩ := k1.cells.values
        have hl : vs.length = xs.length * sz := by rw [← v1.length, k2]
        have hrun := run_loadCells_list (P := P) w ad vs v3
        rw [hl] at hrun
        exact ⟨vs, v1, v2, hl, rfl, hrun, .inl ⟨_, cap, rfl, fun _ => ⟨ad, rfl, v3⟩⟩⟩
  · rename_i β sz' off len
    cases hb : Nat.beq sz sz' with
    | false => rw [hb] at hs; cases hs
    | true =>
      rw [hb] at hs
      simp only [cond_true] at hs
      simp only [Nat.beq_eq] at hb
      subst hb
      split at hs
      · rename_i ro ty cs' hβ
        simp only [Option.some.injEq, Prod.mk.injEq] at hs
        obtain ⟨hle, rfl, rfl⟩ := hs
        have hle := Nat.le_of_ble_eq_true hle
        obtain ⟨b, m, r1, _, _, hc, _⟩ := block_cells H hβ
        unfold VR at hx
        obtain ⟨b', A, cap, t', m', r2, rfl, hlc, ha, _⟩ := hx
        rw [r1] at r2
        cases r2
        rcases Nat.eq_zero_or_pos len with h0 | h0
        · subst h0
          refine ⟨[], by simp [LR], by simp, by simp, rfl, ?_, .inl ⟨A, cap, rfl, fun h => by simp at h⟩⟩
          cases A with
          | none => rfl
          | some ad => simp [Builtin.firstCells, loadCells, loadCellsFrom]
        · rw [ha (by omega)]
          have hc' : Cells ρ own w ⟨b, off, none⟩ ((cs'.drop off).take (len * sz)) := by
            have := hc.drop (k := off)
            rw [add_off, Nat.zero_add] at this
            intro j x hj
            rw [List.getElem?_take] at hj
            split at hj
            · exact this j x hj
            · cases hj
          obtain ⟨vs, v1, v2, v3⟩ := hc'.values
          have hl : vs.length = len * sz := by
            rw [← v1.length]
            simp
            omega
          have hrun := run_loadCells_list (P := P) w ⟨b, off, none⟩ vs v3
          rw [hl] at hrun
          exact ⟨vs, v1, v2, hl, rfl, hrun, .inl ⟨_, cap, rfl, fun _ => ⟨_, rfl, v3⟩⟩⟩
      · cases hs
  · rename_i s
    cases hb : Nat.beq sz 1 with
    | false => rw [hb] at hs; cases hs
    | true =>
      rw [hb] at hs
      simp only [cond_true, Option.some.injEq, Prod.mk.injEq, true_and] at hs
      obtain ⟨rfl, rfl⟩ := hs
      simp only [Nat.beq_eq] at hb
      subst hb
      rw [vstr] at hx
      subst hx
      refine ⟨s.map fun b => .int .u8 (b.toNat : Int), ?_, by simp [Value.oneCell'], by simp, by simp [Builtin.lenOf, size_mk], ?_, .inr ⟨_, rfl⟩⟩
      · refine LR.of (by simp [bytesCells]) fun i x hx => ?_
        unfold bytesCells at hx
        rw [List.getElem?_map, Option.map_eq_some_iff] at hx
        obtain ⟨b, hb, rfl⟩ := hx
        exact ⟨_, by rw [List.getElem?_map, hb]; rfl, vint.2 rfl⟩
      · simp only [Builtin.firstCells, Sem.run_pure]
        congr 1
        apply Array.ext'
        simp [ByteArray.data_extract]
  · cases hs
end
end Go.Abs

set_option linter.unusedVariables false
set_option linter.unusedSimpArgs false
namespace Go.Abs
open Go.RowKit
section
variable {P : Program} {E : Env} {B : Nat} {ρ : Nat → Option Nat} {own : Nat → Prop} {w : World} {t : Nat → AV} {a : Act} {h : Heap}

theorem roomy_le {n b : Nat} (h : roomy n b = true) : n * b ≤ 35184372088832 := Nat.le_of_ble_eq_true h

theorem run_newVar (ty : TypeId) (v : Value) : (newVar ty v).run P w = .ok ⟨w.heap.size, 0, none⟩ (w.alloc (.cells v.cells ty)) := by
  simp [newVar, newRow]

theorem zeros_prefix {z : List AV} {zc : Array Value} (hl : LR ρ own w z zc.toList) (h1 : ∀ x ∈ zc.toList, x.oneCell' = true) {n m : Nat} (hm : n * zc.size ≤ m) :
    ∃ vs : List Value, LR ρ own w (zerosOf n z) vs ∧ (∀ x ∈ vs, x.oneCell' = true) ∧ vs.length = n * zc.size ∧ ∀ (i : Nat) (v : Value), vs[i]? = some v → (madeCells zc m)[i]? = some v := by
  obtain ⟨k1, k2⟩ := zeros_rel hl h1 n (m := n * zc.size) rfl
  refine ⟨_, k1, k2, by simp, fun i v hv => ?_⟩
  have hi : i < n * zc.size := by
    have := (List.getElem?_eq_some_iff.1 hv).1
    simpa using this
  rw [Array.getElem?_toList] at hv
  unfold madeCells
  have hm' : i < m := by omega
  simp [hi, hm'] at hv ⊢
  exact hv

theorem makeSlice_sound (hT : TyAll P E) (H : HR B ρ own w h) {ty e : TypeId} {ti ei : TI} (hti : E.ty ty = some ti) (hd : ti.d = .slice e) (he : E.ty e = some ei) {n c : Int} {k k' : IntKind} (h0 : 0 ≤ n) (hc : n ≤ c) (hr : roomy c.toNat ei.bytes = true) :
    ∃ w' ρ' own' cv, (Instr.makeSlice ty (.int k n) (.int k' c)).run P w = .ok cv w' ∧ HR B ρ' own' w' (h ++ [.cells false e (zerosOf n.toNat ei.zero)]) ∧ Ext B ρ own w ρ' own' w' ∧ VR ρ' own' w' (.sl h.length ei.size 0 n.toNat) cv := by
  obtain ⟨d, d1, d2⟩ := (hT _ _ hti).d
  rw [hd] at d2
  cases d <;> simp [descOk] at d2
  subst d2
  have Te := hT _ _ he
  obtain ⟨f, z, f1, f2, f3, f4, f5, f6⟩ := Te.info
  have z2 := ofVs_rel ρ own w _ _ f5
  have z3 : ∀ x ∈ z.cells.toList, x.oneCell' = true := fun x hx => (Array.all_eq_true_iff_forall_mem.1 f6) x (by simpa using hx)
  have z4 : z.cells.size = ei.size := by rw [← Te.zero, z2.length]; simp
  have hr' := roomy_le hr
  have hpos := Te.pos
  have hn : c.toNat ≤ 35184372088832 := Nat.le_trans (Nat.le_mul_of_pos_right _ hpos) hr'
  have hb : (f.bytes : Int) * c ≤ 281474976710656 := by
    rw [f3]
    have e1 : c = (c.toNat : Int) := by omega
    rw [e1, Int.mul_comm]
    have : ((c.toNat * ei.bytes : Nat) : Int) ≤ 35184372088832 := by omega
    rw [Int.natCast_mul] at this
    omega
  have hrun := run_make (P := P) w ty _ f z d1 f1 f4 k k' n c h0 hc hb (by omega)
  obtain ⟨vs, v1, v2, v3, v4⟩ := zeros_prefix (n := n.toNat) (m := c.toNat * f.size) z2 z3 (by rw [z4, f2]; exact Nat.mul_le_mul_right _ (by omega))
  obtain ⟨q1, q2, q3⟩ := new_sl (sz := ei.size) (len := n.toNat) (cap := c.toNat) H (madeCells z.cells (c.toNat * f.size)) _ (0, 0) (zerosOf n.toNat ei.zero) (.inl (Nat.le_refl _)) vs v1 v4
    (by rw [v3, size_madeCells, z4, f2]; exact Nat.mul_le_mul_right _ (by omega)) v2 (by omega) (by rw [size_madeCells, f2]; exact Nat.le_refl _)
  exact ⟨_, _, _, _, hrun, q1, q2, q3⟩

theorem buildSlice_sound (hT : TyAll P E) (H : HR B ρ own w h) {ty e : TypeId} {ti ei : TI} (hti : E.ty ty = some ti) (hd : ti.d = .slice e) (he : E.ty e = some ei) {len : Nat} (hlen : len * ei.size ≤ 16777216)
    {ps : List (Nat × AV)} {out : List AV} (hf : fillA (fun i => some (i * ei.size, ei.size)) (zerosOf len ei.zero) ps = some out) {cs : List (Nat × Value)} (hl : cs.length = ps.length)
    (hp : ∀ (j : Nat) (i : Nat) (v : AV), ps[j]? = some (i, v) → ∃ cv, cs[j]? = some (i, cv) ∧ VR ρ own w v cv) (ht : ∀ (i : Nat) (v : AV), (i, v) ∈ ps → noTup v = some v) :
    ∃ w' ρ' own' cv, (Instr.buildSlice ty len cs.toArray).run P w = .ok cv w' ∧ HR B ρ' own' w' (h ++ [.cells false e out]) ∧ Ext B ρ own w ρ' own' w' ∧ VR ρ' own' w' (.sl h.length ei.size 0 len) cv := by
  obtain ⟨d, d1, d2⟩ := (hT _ _ hti).d
  rw [hd] at d2
  cases d <;> simp [descOk] at d2
  rename_i e'
  subst d2
  have Te := hT _ _ he
  obtain ⟨z, z1, z2, z3, z4⟩ := ty_zero (P := P) (ρ := ρ) (own := own) (w := w) Te
  have zz : ∃ zc : Array Value, ((len * ei.size = 0 ∧ zc = #[]) ∨ (¬ len * ei.size = 0 ∧ zc = z.cells)) ∧ LR ρ own w (zerosOf len ei.zero) ((Array.range (len * ei.size)).map (zc[· % zc.size]!)).toList ∧ ∀ x ∈ ((Array.range (len * ei.size)).map (zc[· % zc.size]!)).toList, x.oneCell' = true := by
    by_cases h0 : len * ei.size = 0
    · refine ⟨#[], .inl ⟨h0, rfl⟩, ?_, by simp [h0]⟩
      have : (zerosOf len ei.zero).length = 0 := by rw [zeros_length, Te.zero, h0]
      rw [List.eq_nil_of_length_eq_zero this]
      unfold LR
      simp [h0]
    · obtain ⟨k1, k2⟩ := zeros_rel z2 z3 len (m := len * ei.size) (by rw [z4])
      exact ⟨z.cells, .inr ⟨h0, rfl⟩, k1, k2⟩
  obtain ⟨zc, y1, y2, y3⟩ := zz
  obtain ⟨oc, o1, o2, o3⟩ := fillA_sound hl hp ht y2 y3 hf
  have hol : out.length = len * ei.size := by
    have : ∀ (ps : List (Nat × AV)) (c out : List AV), fillA (fun i => some (i * ei.size, ei.size)) c ps = some out → out.length = c.length := by
      intro ps
      induction ps with
      | nil => intro c out h; simp only [fillA, Option.some.injEq] at h; subst h; rfl
      | cons p ps ih =>
        intro c out h
        obtain ⟨i, v⟩ := p
        simp only [fillA] at h
        cases hb : (Nat.beq v.cells.length ei.size && Nat.ble (i * ei.size + ei.size) c.length) with
        | false => rw [hb] at h; cases h
        | true => rw [hb] at h; simp only [cond_true] at h; rw [ih _ _ h, setCells_length]
    rw [this _ _ _ hf, zeros_length, Te.zero]
  have hcs : oc.size = len * ei.size := by rw [← hol, o2.length]; simp
  obtain ⟨q1, q2, q3⟩ := new_sl (sz := ei.size) (len := len) (cap := len) H oc _ (0, 0) out (.inl (Nat.le_refl _)) oc.toList o2 (fun i v hv => by simpa using hv) (by simp) o3 (Nat.le_refl _) (by rw [hcs]; exact Nat.le_refl _)
  refine ⟨_, _, _, _, ?_, q1, q2, q3⟩
  simp only [Instr.buildSlice, Sem.run_bind, run_underlying d1, Result.andThen_ok, run_sizeOf' Te]
  rw [if_neg (by simp; omega)]
  rcases y1 with ⟨y0, rfl⟩ | ⟨y0, rfl⟩
  · rw [if_pos y0]
    simp only [Sem.run_pure, Result.andThen_ok, Sem.run_bind, pure_bind, o1, newRow, run_newObj, World.alloc_eq]
  · rw [if_neg y0]
    simp only [z1, Sem.run_pure, Result.andThen_ok, Sem.run_bind, pure_bind, o1, newRow, run_newObj, World.alloc_eq]

theorem store_sound (hT : TyAll P E) (H : HR B ρ own w h) {ty : TypeId} {ti : TI} (hti : E.ty ty = some ti) {β off : Nat} {e : TypeId} {cs : List AV} {v : AV} (hβ : h.at β = .cells false e cs) (hl : v.cells.length = ti.size) (ho : off + ti.size ≤ cs.length)
    (hv : noTup v = some v) {cx cv : Value} (hx : VR ρ own w (.ptr β off) cx) (hcv : VR ρ own w v cv) :
    ∃ w', (Instr.storeAt ty cx cv).run P w = .ok () w' ∧ HR B ρ own w' (h.set β (.cells false e (setCells cs off v.cells))) ∧ Ext B ρ own w ρ own w' := by
  unfold VR at hx
  obtain ⟨b, r1, rfl⟩ := hx
  obtain ⟨c1, c2⟩ := cells_rel hcv hv
  have hlen := c1.length
  obtain ⟨q1, q2, q3⟩ := hr_setCells H hβ r1 c1 c2 (by rw [hl]; exact ho)
  have hst := run_storeCells_cells (P := P) b off cv.cells.toList 0 w (fun j hj => by simpa using (q3 j (by simpa using hj)).1) (fun j hj => by simpa using (q3 j (by simpa using hj)).2) c2
  refine ⟨_, ?_, q1, q2⟩
  have hsz : cv.cells.size = ti.size := by rw [← hl, hlen]; simp
  rw [Nat.add_zero] at hst
  simp only [Instr.storeAt, Instr.sureAddr, Sem.run_bind, Sem.run_pure, Result.andThen_ok, storeVar, run_sizeOf' (hT _ _ hti), hsz, ne_eq, not_true_eq_false, if_false, hst, pure_bind]
end
end Go.Abs

set_option linter.unusedVariables false
set_option linter.unusedSimpArgs false
namespace Go.Abs
open Go.RowKit
section
variable {P : Program} {E : Env} {B : Nat} {ρ : Nat → Option Nat} {own : Nat → Prop} {w : World} {t : Nat → AV} {a : Act} {h : Heap}

theorem listy_ty (hT : TyAll P E) {t1 : Option TypeId} (hl : listy E t1 = true) : ∃ ty d, t1 = some ty ∧ P.underlying ty = some d ∧ ((∃ e, d = .slice e) ∨ d = .string) := by
  unfold listy at hl
  cases t1 with
  | none => cases hl
  | some ty =>
    simp only [Option.bind_some] at hl
    cases hi : E.ty ty with
    | none => rw [hi] at hl; cases hl
    | some i =>
      rw [hi] at hl
      simp only at hl
      obtain ⟨d, d1, d2⟩ := (hT _ _ hi).d
      refine ⟨ty, d, rfl, d1, ?_⟩
      cases hd : i.d <;> rw [hd] at hl d2 <;> simp at hl <;> cases d <;> simp [descOk] at d2
      · exact .inr rfl
      · exact .inl ⟨_, rfl⟩

/-- append, as far as the question whether there is room. -/
theorem append_run (hT : TyAll P E) {argTypes : Array TypeId} {ty e : TypeId} {ti ei : TI} (h0 : argTypes[0]? = some ty) (hti : E.ty ty = some ti) (hd : ti.d = .slice e) (he : E.ty e = some ei) (hl : listy E argTypes[1]? = true)
    {A : Option Addr} {len cap n : Nat} {cx : Value} (hlen : (Builtin.lenOf cx).run P w = .ok n w) (hle : len ≤ cap) (hroom : roomy (len + n) ei.bytes = true) (type : TypeId) :
    (Builtin.append_ argTypes type #[.slice A len cap, cx]).run P w =
      if len + n ≤ cap then
        ((do
          let new ← Builtin.firstCells ei.size n cx
          if let some a := A then storeCells (a.add (len * ei.size)) new.toList
          pure (.slice A (len + n) cap)) : Sem Value).run P w
      else
        ((do
          let old ← Builtin.firstCells ei.size len (.slice A len cap)
          let new ← Builtin.firstCells ei.size n cx
          let rest := Builtin.zeroCells (← zeroValue e).cells (grownCap w (len + n) cap e - (len + n))
          pure (.slice (some (← newRow e (old ++ new ++ rest))) (len + n) (grownCap w (len + n) cap e))) : Sem Value).run P w.drew := by
  obtain ⟨d, d1, d2⟩ := (hT _ _ hti).d
  rw [hd] at d2
  cases d <;> simp [descOk] at d2
  subst d2
  have Te := hT _ _ he
  obtain ⟨f, z, f1, f2, f3, f4, _, _⟩ := Te.info
  have hr := roomy_le hroom
  have hpos := Te.pos
  have hb : len + n ≤ 35184372088832 := Nat.le_trans (Nat.le_mul_of_pos_right _ hpos) hr
  obtain ⟨ty1, dd, e1, e2, e3⟩ := listy_ty hT hl
  have h63 : ¬ ((len + n : Nat) : Int) > IntKind.i64.max := by simp [IntKind.max, IntKind.signed, IntKind.bits]; omega
  have hb0 : ¬ f.bytes = 0 := by omega
  by_cases hfit : len + n ≤ cap
  · rw [if_pos hfit]
    rcases e3 with ⟨e', rfl⟩ | rfl <;>
    · simp only [Builtin.append_, h0, List.getElem?_toArray, List.getElem?_cons_zero, List.getElem?_cons_succ, Sem.run_bind, run_underlying d1, Result.andThen_ok, run_sizeOf' Te, e1, run_underlying e2, Sem.run_pure, hlen, if_pos hfit, Bool.false_eq_true, if_false, Bool.not_false, if_true]
      cases A <;> rfl
  · rw [if_neg hfit]
    have h48 : ¬ (Builtin.nextslicecap (len + n) cap * f.bytes > 2 ^ 48) := by
      have := growslice_fits (need := len + n) (old := cap) (bytes := f.bytes) (by omega) (by rw [f3]; omega)
      have e48 : (2 : Nat) ^ 48 = 281474976710656 := by decide
      omega
    rcases e3 with ⟨e', rfl⟩ | rfl <;>
    · simp only [Builtin.append_, h0, List.getElem?_toArray, List.getElem?_cons_zero, List.getElem?_cons_succ, Sem.run_bind, run_underlying d1, Result.andThen_ok, run_sizeOf' Te, e1, run_underlying e2, Sem.run_pure, hlen, if_neg hfit, Bool.false_eq_true, if_false, Bool.not_false, if_true,
        run_typeInfo' f1, h63, hb0, false_and, h48, run_choose, Question.forced, run_askRoom, pure_bind, or_self, false_or]
      rfl

theorem grownCap_ge (w : World) (need old : Nat) (e : TypeId) : need ≤ grownCap w need old e := by
  simp [grownCap, Question.cut]
theorem zeroCells_size (z : Array Value) (n : Nat) : (Builtin.zeroCells z n).size = n * z.size := by simp [Builtin.zeroCells]

/-- The new row of an append that grows. -/
theorem grow_sound (hT : TyAll P E) (H : HR B ρ own w h) {e : TypeId} {ei : TI} (he : E.ty e = some ei) {A : Option Addr} {len cap n : Nat} {cx : Value} {vs0 vs : List Value} {cs0 cs : List AV}
    (r0 : (Builtin.firstCells ei.size len (.slice A len cap)).run P w.drew = .ok vs0.toArray w.drew) (r1 : (Builtin.firstCells ei.size n cx).run P w.drew = .ok vs.toArray w.drew)
    (l0 : LR ρ own w cs0 vs0) (l1 : LR ρ own w cs vs) (o0 : ∀ u ∈ vs0, u.oneCell' = true) (o1 : ∀ u ∈ vs, u.oneCell' = true) (n0 : vs0.length = len * ei.size) (n1 : vs.length = n * ei.size) :
    ∃ w' ρ' own' cv, ((do
          let old ← Builtin.firstCells ei.size len (.slice A len cap)
          let new ← Builtin.firstCells ei.size n cx
          let rest := Builtin.zeroCells (← zeroValue e).cells (grownCap w (len + n) cap e - (len + n))
          pure (.slice (some (← newRow e (old ++ new ++ rest))) (len + n) (grownCap w (len + n) cap e))) : Sem Value).run P w.drew = .ok cv w' ∧
      HR B ρ' own' w' (h ++ [.cells false e (cs0 ++ cs)]) ∧ Ext B ρ own w ρ' own' w' ∧ VR ρ' own' w' (.sl h.length ei.size 0 (len + n)) cv := by
  have Te := hT _ _ he
  obtain ⟨z, z1, z2, z3, z4⟩ := ty_zero (P := P) (ρ := ρ) (own := own) (w := w.drew) Te
  have hE := ext_drew (B := B) ρ own w
  have l0' := LR.mono hE _ _ l0
  have l1' := LR.mono hE _ _ l1
  have hg := grownCap_ge w (len + n) cap e
  have hsz : (vs0.toArray ++ vs.toArray ++ Builtin.zeroCells z.cells (grownCap w (len + n) cap e - (len + n))).size = grownCap w (len + n) cap e * ei.size := by
    have e1 : grownCap w (len + n) cap e * ei.size = len * ei.size + n * ei.size + (grownCap w (len + n) cap e - (len + n)) * ei.size := by
      rw [← Nat.add_mul, ← Nat.add_mul]; congr 1; omega
    simp only [Array.size_append, List.size_toArray, zeroCells_size, z4, n0, n1]
    omega
  obtain ⟨q1, q2, q3⟩ := new_sl (sz := ei.size) (len := len + n) (cap := grownCap w (len + n) cap e) H.drew (vs0.toArray ++ vs.toArray ++ Builtin.zeroCells z.cells (grownCap w (len + n) cap e - (len + n))) e (0, 0) (cs0 ++ cs) (.inl (Nat.le_refl _))
    (vs0 ++ vs) (l0'.append l1') (fun i v hv => by
      rw [Array.getElem?_append_left (by
        have := (List.getElem?_eq_some_iff.1 hv).1
        simpa using this)]
      rw [List.append_toArray, List.getElem?_toArray]
      exact hv) (by
      simp only [Array.size_append, List.size_toArray, List.length_append]; omega) (fun x hx => by
      rcases List.mem_append.1 hx with hx | hx
      · exact o0 x hx
      · exact o1 x hx) hg (by rw [hsz]; exact Nat.le_refl _)
  refine ⟨_, _, _, _, ?_, q1, hE.trans q2, q3⟩
  simp only [Sem.run_bind, r0, r1, z1, Result.andThen_ok, newRow, run_newObj, World.alloc_eq, Sem.run_pure, pure_bind]

theorem append_sound (hT : TyAll P E) (H : HR B ρ own w h) {argTypes : Array TypeId} {ty e : TypeId} {ti ei : TI} (h0 : argTypes[0]? = some ty) (hti : E.ty ty = some ti) (hd : ti.d = .slice e) (he : E.ty e = some ei) (hl : listy E argTypes[1]? = true)
    {s x : AV} {n : Nat} {new : List AV} {hq : Heap} (Hs : HR B ρ own w hq) (hs : srcCells ei.size hq x = some (true, n, new)) {cs cx : Value} (hvs : VR ρ own w s cs) (vx : VR ρ own w x cx) (type : TypeId) {ans : Ans} (hok : ans.ok = true)
    (hans : appendA e ei h true n new s = some ans) :
    ∃ w' ρ' own' cv, (Builtin.append_ argTypes type #[cs, cx]).run P w = .ok cv w' ∧ HR B ρ' own' w' ans.h ∧ Ext B ρ own w ρ' own' w' ∧ VR ρ' own' w' ans.v cv := by
  obtain ⟨us, u1, u2, u3, u4, u5, _⟩ := src_sound (P := P) Hs hs vx
  have hE := ext_drew (B := B) ρ own w
  obtain ⟨us', u1', u2', u3', u4', u5', _⟩ := src_sound (P := P) Hs.drew hs (VR.mono hE _ _ vx)
  have hE' : Ext B ρ own w.drew ρ own w := ⟨rfl, rfl, rfl, Nat.le_refl _, fun _ _ h => h, fun _ _ h => ⟨rfl, h⟩, fun _ _ h => h, fun _ _ => rfl, fun _ h => h⟩
  cases s with
  | emp b =>
    unfold appendA at hans
    dsimp only at hans
    unfold VR at hvs
    obtain ⟨A, rfl, hA⟩ := hvs
    cases hn : Nat.beq n 0 with
    | true =>
      rw [hn] at hans
      simp only [cond_true, Option.some.injEq] at hans
      subst hans
      simp only [Nat.beq_eq] at hn
      subst hn
      have hus : us = [] := List.eq_nil_of_length_eq_zero (by omega)
      subst hus
      have hr := append_run hT h0 hti hd he hl (A := A) (len := 0) (cap := 0) u4 (Nat.le_refl _) (by simp [roomy]) type
      rw [if_pos (by omega)] at hr
      refine ⟨w, ρ, own, .slice A 0 0, ?_, H, Ext.refl .., by unfold VR; exact ⟨A, rfl, hA⟩⟩
      rw [hr]
      cases A <;> simp [u5, storeCells]
    | false =>
      rw [hn] at hans
      simp only [cond_false, Option.some.injEq, Bool.true_and] at hans
      subst hans
      simp only at hok
      have hn0 : ¬ n = 0 := fun e => by rw [e] at hn; cases hn
      have hr := append_run hT h0 hti hd he hl (A := A) (len := 0) (cap := 0) u4 (Nat.le_refl _) (by rw [Nat.zero_add]; exact hok) type
      rw [if_neg (by omega)] at hr
      have := grow_sound hT H he (A := A) (len := 0) (cap := 0) (vs0 := []) (cs0 := []) (by cases A <;> simp [Builtin.firstCells, loadCells, loadCellsFrom]) u5' (by unfold LR; rfl) (LR.mono hE' _ _ u1') (by simp) u2' (by simp) u3'
      rw [hr]
      simpa using this
  | sl β sz off len =>
    unfold appendA at hans
    dsimp only at hans
    split at hans
    · rename_i e' cs0 hβ
      simp only [Option.some.injEq] at hans
      subst hans
      simp only [Bool.true_and, Bool.and_eq_true, Nat.beq_eq] at hok
      obtain ⟨⟨⟨⟨rfl, rfl⟩, rfl⟩, hcl⟩, hroom⟩ := hok
      have vs' := hvs
      unfold VR at vs'
      obtain ⟨b, A, cap, t', N, r1, rfl, hle, hA, hshape, hN⟩ := vs'
      obtain ⟨b', n', r1', sh', _⟩ := block_cells H hβ
      rw [r1] at r1'
      cases r1'
      rw [hshape] at sh'
      cases sh'
      have hr := append_run hT h0 hti hd he hl (A := A) (len := len) (cap := cap) u4 hle hroom type
      by_cases hfit : len + n ≤ cap
      · rw [if_pos hfit] at hr
        rcases Nat.eq_zero_or_pos cap with hc0 | hc0
        · have hn0 : n = 0 := by omega
          have hl0 : len = 0 := by omega
          subst hn0 hl0 hc0
          have hus : us = [] := List.eq_nil_of_length_eq_zero (by omega)
          subst hus
          have hnew : new = [] := List.eq_nil_of_length_eq_zero (by rw [u1.length]; rfl)
          obtain ⟨q1, q2, q3⟩ := hr_grow H hβ r1 hshape u1 u2 (by subst hnew; simp at hcl ⊢; simp [← hcl])
          refine ⟨_, _, _, .slice A 0 0, ?_, q1, q2, ?_⟩
          · rw [hr]
            cases A <;> simp [u5, storeCells, World.setCells]
          · unfold VR
            exact ⟨b, A, 0, _, N, by simp [renNew], rfl, by omega, fun h => by omega, by rw [setCells_shape]; exact hshape, fun h => by omega⟩
        · rw [hA hc0] at hr
          have hcap : cs0.length + new.length ≤ N := by
            have := hN hc0
            rw [Nat.zero_add] at this
            rw [u1.length, u3, ← hcl, ← Nat.add_mul]
            exact Nat.le_trans (Nat.mul_le_mul_right _ hfit) this
          obtain ⟨q1, q2, q3⟩ := hr_grow H hβ r1 hshape u1 u2 hcap
          have hst := run_storeCells_cells (P := P) b (len * ei.size) us 0 w (fun j hj => by simpa [hcl] using (q3 j hj).1) (fun j hj => by simpa [hcl] using (q3 j hj).2) u2
          refine ⟨_, _, _, .slice (some ⟨b, 0, none⟩) (len + n) cap, ?_, q1, q2, ?_⟩
          · rw [hA hc0, hr]
            rw [Nat.add_zero, hcl] at hst
            simp only [Sem.run_bind, u5, Result.andThen_ok, add_off, Nat.zero_add, hcl, hst, Sem.run_pure]
          · unfold VR
            exact ⟨b, _, cap, _, N, by simp [renNew], rfl, hfit, fun _ => rfl, by rw [setCells_shape]; exact hshape, fun _ => hN hc0⟩
      · rw [if_neg hfit] at hr
        obtain ⟨us0, o1, o2, o3, _, o5, _⟩ := src_sound (P := P) (sz := ei.size) (n := len) (x := .sl β ei.size 0 len) (cs := cs0) H.drew (by
          simp only [srcCells, show Nat.beq ei.size ei.size = true by simp, cond_true, hβ, List.drop_zero, Nat.zero_add, hcl, show Nat.ble cs0.length cs0.length = true from Nat.ble_eq_true_of_le (Nat.le_refl _), List.take_length]) (VR.mono hE _ _ hvs)
        have hlen : (h.set β Blk.dead).length = h.length := by simp
        have := grow_sound hT (H.drop β) he (A := A) (len := len) (cap := cap) o5 u5' (LR.mono hE' _ _ o1) (LR.mono hE' _ _ u1') o2 u2' o3 u3'
        rw [hlen] at this
        rw [hr]
        exact this
    · cases hans
  | _ => cases hans

theorem trim_sound (H : HR B ρ own w h) (sz : Nat) (s : AV) : HR B ρ own w (trimA sz h s) := by
  unfold trimA
  split
  · split
    · rename_i hβ; exact hr_trim H hβ _
    · exact H
  · exact H
end
end Go.Abs

set_option linter.unusedVariables false
set_option linter.unusedSimpArgs false
namespace Go.Abs
open Go.RowKit
section
variable {P : Program} {E : Env} {B : Nat} {ρ : Nat → Option Nat} {own : Nat → Prop} {w : World} {t : Nat → AV} {a : Act} {h : Heap}

theorem isBytes_run (hT : TyAll P E) {e : TypeId} (hb : isBytes E e = true) : P.underlying e = some (.int .u8) := by
  unfold isBytes at hb
  cases hi : E.ty e with
  | none => rw [hi] at hb; cases hb
  | some i =>
    rw [hi] at hb
    simp only at hb
    obtain ⟨d, d1, d2⟩ := (hT _ _ hi).d
    split at hb
    · rename_i hd
      rw [hd] at d2
      cases d <;> simp [descOk] at d2
      subst d2
      exact d1
    · cases hb

theorem bytesWorld_eq (w : World) (e : TypeId) (s : ByteArray) : Lib.bytesWorld w e s = w.drew.alloc (.cells (Lib.bytesCells w e s) e ((Lib.bytesCells w e s).size, (Lib.bytesCells w e s).size + 1)) := by
  have hh : (Lib.bytesWorld w e s).heap = (w.drew.alloc (.cells (Lib.bytesCells w e s) e ((Lib.bytesCells w e s).size, (Lib.bytesCells w e s).size + 1))).heap := by
    apply Array.ext_getElem?
    intro i
    rcases Nat.lt_trichotomy i w.heap.size with hi | hi | hi
    · rw [Lib.bytesWorld_at_old w e s i hi, heap_alloc_lt w.drew _ _ hi]; rfl
    · subst hi
      rw [Lib.bytesWorld_at_new]
      exact (heap_alloc_new w.drew _).symm
    · rw [Array.getElem?_eq_none (by rw [Lib.bytesWorld_size]; omega), Array.getElem?_eq_none (by rw [World.size_alloc]; show w.heap.size + 1 ≤ i; omega)]
  have : Lib.bytesWorld w e s = { w.drew.alloc (.cells (Lib.bytesCells w e s) e) with heap := (Lib.bytesWorld w e s).heap } := rfl
  rw [this, hh]
  rfl

theorem bytes_sound (hT : TyAll P E) (H : HR B ρ own w h) {src dst e : TypeId} {si ti : TI} (hsi : E.ty src = some si) (hti : E.ty dst = some ti) (hs : si.d = .str) (hd : ti.d = .slice e) (hb : isBytes E e = true) {s : List UInt8} {cx : Value} (hx : VR ρ own w (.str s) cx) :
    ∃ w' ρ' own' cv, (Go.convert src dst cx).run P w = .ok cv w' ∧ HR B ρ' own' w' (h ++ [.cells false e (bytesCells s)]) ∧ Ext B ρ own w ρ' own' w' ∧ VR ρ' own' w' (.sl h.length 1 0 s.length) cv := by
  obtain ⟨d, d1, d2⟩ := (hT _ _ hti).d
  rw [hd] at d2
  cases d <;> simp [descOk] at d2
  subst d2
  obtain ⟨ds, s1, s2⟩ := (hT _ _ hsi).d
  rw [vstr] at hx
  subst hx
  have hr := Lib.run_convert_string_bytes (P := P) w src dst _ ⟨s.toArray⟩ s1 d1 (isBytes_run hT hb)
  have hE := ext_drew (B := B) ρ own w
  have hg := grownCap_ge w (⟨s.toArray⟩ : ByteArray).size 0
  rw [size_mk] at hg
  rename_i e'
  have hsz : (Lib.bytesCells w e' ⟨s.toArray⟩).size = grownCap w s.length 0 e' := by
    have := hg e'
    simp [Lib.bytesCells, ByteArray.size]
    omega
  obtain ⟨q1, q2, q3⟩ := new_sl (sz := 1) (len := s.length) (cap := grownCap w s.length 0 e') H.drew (Lib.bytesCells w e' ⟨s.toArray⟩) e' ((Lib.bytesCells w e' ⟨s.toArray⟩).size, (Lib.bytesCells w e' ⟨s.toArray⟩).size + 1) (bytesCells s) (.inr (Nat.le_refl _))
    (s.map fun b => .int .u8 (b.toNat : Int)) (LR.of (by simp [bytesCells]) fun i x hx => by
      unfold bytesCells at hx
      rw [List.getElem?_map, Option.map_eq_some_iff] at hx
      obtain ⟨b, hb, rfl⟩ := hx
      exact ⟨_, by rw [List.getElem?_map, hb]; rfl, vint.2 rfl⟩) (fun i v hv => by
      have hi : i < s.length := by
        have := (List.getElem?_eq_some_iff.1 hv).1
        simpa using this
      unfold Lib.bytesCells
      rw [Array.getElem?_append_left (by simpa using hi)]
      simpa using hv) (by rw [hsz]; simpa using hg e') (by simp [Value.oneCell']) (hg e') (by rw [hsz]; omega)
  rw [bytesWorld_eq] at hr
  rw [size_mk] at hr
  exact ⟨_, _, _, _, hr, q1, hE.trans q2, q3⟩

theorem str_of_bytes (hT : TyAll P E) (H : HR B ρ own w h) {src dst e : TypeId} {si ti : TI} (hsi : E.ty src = some si) (hti : E.ty dst = some ti) (hs : si.d = .slice e) (hd : ti.d = .str) (hb : isBytes E e = true) {x : AV} {n : Nat} {cs : List AV}
    (hsrc : srcCells 1 h x = some (true, n, cs)) (hall : cs.all (AV.isI .u8) = true) {cx : Value} (hx : VR ρ own w x cx) (hns : ∀ s, x ≠ .str s) :
    ∃ cv, (Go.convert src dst cx).run P w = .ok cv w ∧ VR ρ own w (.str (cellsBytes cs)) cv := by
  obtain ⟨d, d1, d2⟩ := (hT _ _ hti).d
  rw [hd] at d2
  cases d <;> simp [descOk] at d2
  obtain ⟨ds, s1, s2⟩ := (hT _ _ hsi).d
  rw [hs] at s2
  cases ds <;> simp [descOk] at s2
  subst s2
  have he := isBytes_run hT hb
  obtain ⟨vs, v1, v2, v3, v4, v5, v6⟩ := src_sound (P := P) H hsrc hx
  have hvs : vs = (cs.map AV.toI).map (Value.int .u8) := by
    apply List.ext_getElem?
    intro i
    rw [List.getElem?_map, List.getElem?_map]
    have hl := v1.length
    cases hc : cs[i]? with
    | none =>
      rw [List.getElem?_eq_none (by rw [← hl]; exact List.getElem?_eq_none_iff.1 hc)]
      rfl
    | some c =>
      obtain ⟨v, k1, k2⟩ := v1.get hc
      have hc' := List.all_eq_true.1 hall c (List.mem_of_getElem? hc)
      cases c <;> simp [AV.isI] at hc'
      subst hc'
      rw [vint] at k2
      subst k2
      rw [k1]
      rfl
  rcases v6 with ⟨A, cap, rfl, hA⟩ | ⟨s, rfl⟩
  · cases A with
    | none =>
      have hn : n = 0 := by
        rcases Nat.eq_zero_or_pos n with h0 | h0
        · exact h0
        · obtain ⟨ad, e, _⟩ := hA h0
          cases e
      subst hn
      have hcs : cs = [] := List.eq_nil_of_length_eq_zero (by rw [v1.length, v3])
      subst hcs
      exact ⟨_, run_convert_bytes_nil (P := P) w src _ s1 he 0 cap dst d1, vstr.2 rfl⟩
    | some ad =>
      have hld : (loadCells ad n).run P w = .ok ((cs.map AV.toI).map (Value.int .u8)).toArray w := by
        have : (Builtin.firstCells 1 n (.slice (some ad) n cap)).run P w = .ok vs.toArray w := v5
        simp only [Builtin.firstCells, Nat.mul_one] at this
        rw [this, hvs]
      refine ⟨.string (strOfNums (cs.map AV.toI)), ?_, ?_⟩
      · rw [run_convert_bytes_string w src dst _ _ n cap s1 he d1, run_bytesToString w _ n cap _ hld, foldl_push_bytes]
        simp [strOfNums, ByteArray.empty, ByteArray.emptyWithCapacity]
        rfl
      · rw [vstr]
        congr 1
        unfold strOfNums cellsBytes
        rw [List.map_map]
        rfl
  · exfalso
    cases x <;> first | exact hns _ rfl | (simp [srcCells] at hsrc; done) | (unfold VR at hx; simp at hx; done)
end
end Go.Abs

set_option linter.unusedVariables false
set_option linter.unusedSimpArgs false
namespace Go.Abs
open Go.RowKit
section
variable {P : Program} {E : Env} {B : Nat} {ρ : Nat → Option Nat} {own : Nat → Prop} {w : World} {t : Nat → AV} {a : Act} {h : Heap}

/-- THE OPERATIONS THAT TURN THE HEAP. -/
theorem actA0_sound (hT : TyAll P E) (H : HR B ρ own w h) (T : TR ρ own w t a) {o : Oper} {ans : Ans} (hh : actA0 E t o h = some ans) (hok : ans.ok = true) :
    ActOk P B ρ own w (execOp a.eval o) ans.v ans.h := by
  unfold actA0 at hh
  dsimp only at hh
  split at hh
  · rename_i e hop
    split at hh
    · rename_i ti hti
      simp only [Option.some.injEq] at hh
      subst hh
      obtain ⟨z, z1, z2, z3, z4⟩ := ty_zero (P := P) (ρ := ρ) (own := own) (w := w) (hT _ _ hti)
      obtain ⟨q1, q2, q3⟩ := new_ptr H z.cells e ti.zero z2 z3
      unfold execOp
      rw [hop]
      refine actOk_value ⟨_, _, _, _, ?_, q1, q2, q3⟩
      simp [Instr.alloc, z1, run_newVar]
    · cases hh
  · rename_i e x hop
    split at hh
    · rename_i v hv
      simp only [Option.some.injEq] at hh
      subst hh
      obtain ⟨hv, hnt⟩ := noTup_eq hv
      obtain ⟨c1, c2⟩ := cells_rel (ev_sound T hv) hnt
      obtain ⟨q1, q2, q3⟩ := new_ptr H (a.eval x).cells e v.cells c1 c2
      unfold execOp
      rw [hop]
      refine actOk_value ⟨_, _, _, _, ?_, q1, q2, q3⟩
      simp [Instr.box, run_newVar]
    · cases hh
  · rename_i ty len ps hop
    split at hh
    · rename_i ti hti
      split at hh
      · rename_i e hd
        split at hh
        · rename_i ei l he hl
          split at hh
          · rename_i cs hf
            simp only [Option.some.injEq] at hh
            subst hh
            simp only at hok
            obtain ⟨cv, rfl, k1, k2, k3⟩ := evParts_sound T hl
            unfold execOp
            rw [hop]
            refine actOk_value ?_
            have : (ps.map fun (i, x) => (i, a.eval x)) = (ps.toList.map fun (i, x) => (i, a.eval x)).toArray := by apply Array.ext'; simp
            show ∃ w' ρ' own' cv, (Instr.buildSlice ty len (ps.map fun (i, x) => (i, a.eval x))).run P w = .ok cv w' ∧ _
            rw [this]
            exact buildSlice_sound hT H hti hd he (Nat.le_of_ble_eq_true hok) hf k1 k2 k3
          · cases hh
        · cases hh
      · cases hh
    · cases hh
  · rename_i ty n c hop
    split at hh
    · rename_i ti hti
      split at hh
      · rename_i e hd
        split at hh
        · rename_i ei k n' k' c' he hn hc
          simp only [Option.some.injEq] at hh
          subst hh
          simp only [Bool.and_eq_true, decide_eq_true_eq] at hok
          have v1 := ev_sound T hn
          have v2 := ev_sound T hc
          rw [vint] at v1 v2
          unfold execOp
          rw [hop]
          refine actOk_value ?_
          show ∃ w' ρ' own' cv, (Instr.makeSlice ty (a.eval n) (a.eval c)).run P w = .ok cv w' ∧ _
          rw [v1, v2]
          exact makeSlice_sound hT H hti hd he hok.1.1 hok.1.2 hok.2
        · cases hh
      · cases hh
    · cases hh
  · rename_i src dst x hop
    split at hh
    · rename_i si ti x' hsi hti hx
      have hv := ev_sound T hx
      unfold execOp
      rw [hop]
      refine actOk_value ?_
      show ∃ w' ρ' own' cv, (Go.convert src dst (a.eval x)).run P w = .ok cv w' ∧ _
      split at hh
      · rename_i e s hs hd
        cases hb : isBytes E e with
        | false => rw [hb] at hh; cases hh
        | true =>
          rw [hb] at hh
          simp only [cond_true, Option.some.injEq] at hh
          subst hh
          exact bytes_sound hT H hsi hti hs hd hb hv
      · cases hh
      · rename_i x'' e hs hd hne
        cases hb : isBytes E e with
        | false => rw [hb] at hh; cases hh
        | true =>
          rw [hb] at hh
          simp only [cond_true] at hh
          split at hh
          · rename_i ok n cs hsrc
            simp only [Option.some.injEq] at hh
            subst hh
            simp only [Bool.and_eq_true] at hok
            obtain ⟨rfl, hall⟩ := hok
            obtain ⟨cv, c1, c2⟩ := str_of_bytes hT H hsi hti hs hd hb hsrc hall hv (fun s e => hne s e)
            exact ⟨w, ρ, own, cv, c1, H, Ext.refl .., c2⟩
          · cases hh
      · cases hh
    · cases hh
  · rename_i ty x v hop
    split at hh
    · rename_i ti β off v' hti hx hv
      obtain ⟨hv, hnt⟩ := noTup_eq hv
      split at hh
      · rename_i e cs hβ
        have hh' : some (⟨Nat.beq v'.cells.length ti.size && Nat.ble (off + ti.size) cs.length, .undef, h.set β (.cells false e (setCells cs off v'.cells)), [β]⟩ : Ans) = some ans := by
          split at hh
          · rename_i hb
            simp only [Bool.and_eq_true, Nat.beq_eq] at hb
            obtain ⟨⟨_, rfl⟩, h2⟩ := hb
            rw [← hh]
            have : setCells cs 0 v'.cells = v'.cells := by
              refine List.ext_getElem? fun i => ?_
              rw [setCells_get _ _ _ _ (by omega)]
              split
              · rw [Nat.sub_zero]
              · rename_i hn
                rw [List.getElem?_eq_none (by omega), List.getElem?_eq_none (by omega)]
            rw [this]
          · exact hh
        clear hh
        simp only [Option.some.injEq] at hh'
        subst hh'
        simp only [Bool.and_eq_true, Nat.beq_eq] at hok
        obtain ⟨w', q1, q2, q3⟩ := store_sound hT H hti hβ hok.1 (Nat.le_of_ble_eq_true hok.2) hnt (ev_sound T hx) (ev_sound T hv)
        unfold execOp
        rw [hop]
        refine ⟨.skip, w', ρ, own, undef, ?_, .inr ⟨rfl, rfl⟩, q2, q3, by unfold VR; exact ⟨#[], rfl, by unfold LR; rfl⟩⟩
        simp only [Sem.run_bind, q1, Result.andThen_ok, Sem.run_pure]
      · cases hh
    · cases hh
  · rename_i b args argTypes hop
    split at hh
    · rename_i ti s x hti hl
      have hargs : LR ρ own w [s, x] (args.map a.eval).toList := by
        rw [Array.toList_map]
        exact evs_sound T hl
      unfold LR at hargs
      obtain ⟨c1, r, e1, hv1, hr⟩ := hargs
      unfold LR at hr
      obtain ⟨c2, r', e2, hv2, hr2⟩ := hr
      unfold LR at hr2
      subst hr2
      subst e2
      have e' : args.map a.eval = #[c1, c2] := Array.ext' e1
      split at hh
      · rename_i e hd hls
        split at hh
        · rename_i ei he
          split at hh
          · rename_i ok n new hsrc
            have hok' : ∀ h, appendA e ei h ok n new s = some ans → ok = true := by
              intro h hh
              cases ok with
              | true => rfl
              | false =>
                exfalso
                cases s with
                | emp b =>
                  unfold appendA at hh
                  dsimp only at hh
                  cases hn : Nat.beq n 0 <;> rw [hn] at hh <;> simp only [cond_true, cond_false, Option.some.injEq] at hh <;> subst hh <;> simp at hok
                | sl β sz off len =>
                  unfold appendA at hh
                  dsimp only at hh
                  split at hh
                  · simp only [Option.some.injEq] at hh
                    subst hh
                    simp at hok
                  · cases hh
                | _ => cases hh
            have hh' : ∃ h', HR B ρ own w h' ∧ appendA e ei h' ok n new s = some ans := ⟨_, trim_sound H ei.size s, hh⟩
            obtain ⟨h', H', hh'⟩ := hh'
            have hok'' := hok' h' hh'
            subst hok''
            cases h0 : argTypes[0]? with
            | none => rw [h0] at hti; cases hti
            | some ty =>
              rw [h0] at hti
              simp only [Option.bind_some] at hti
              obtain ⟨w', ρ', own', cv, q1, q2, q3, q4⟩ := append_sound hT H' h0 hti hd he hls H hsrc hv1 hv2 o.type hok hh'
              unfold execOp
              rw [hop]
              have : (do let d ← resolve a.eval { callee := .builtin .append, args := args, argTypes := argTypes } o.type; invoke d.target d.args).run P w = .ok (.value cv) w' :=
                run_builtin_value (s := fun _ => Builtin.append_ argTypes o.type (args.map a.eval)) rfl (fun _ => rfl) fun _ => by rw [e']; exact q1
              exact ⟨.value cv, w', ρ', own', cv, this, .inl rfl, q2, q3, q4⟩
          · cases hh
        · cases hh
      · cases hh
    · cases hh
  · cases hh
end
end Go.Abs

set_option linter.unusedVariables false
set_option linter.unusedSimpArgs false
namespace Go.Abs
open Go.RowKit Go.MapKept
section
variable {P : Program} {E : Env} {B : Nat} {ρ : Nat → Option Nat} {own : Nat → Prop} {w w' : World} {t : Nat → AV} {a : Act} {h : Heap}

/-- A new map. -/
theorem hr_newMap (H : HR B ρ own w h) (kt et : TypeId) :
    HR B (renNew ρ h.length w.heap.size) (ownNew own w.heap.size) (w.alloc (.map #[] 0)) (h ++ [.map kt et []]) ∧ Ext B ρ own w (renNew ρ h.length w.heap.size) (ownNew own w.heap.size) (w.alloc (.map #[] 0)) := by
  have hE := ext_alloc H (.map #[] 0)
  have hnew := heap_alloc_new w (.map #[] 0)
  refine ⟨⟨fun β => ?_, fun β hβ => ?_, fun β β' b l1 l2 r1 r2 => ?_, ro_append H rfl, fun b hb => ?_, fun β b l r => ?_, ?_⟩, hE⟩
  · rcases Nat.lt_trichotomy β h.length with hβ | hβ | hβ
    · rw [at_append_lt hβ]
      refine (H.blk β).move hE (fun b hb _ ho => ?_) (H.ro β)
      exact ⟨heap_alloc_lt _ _ _ (H.own b ho), .inl ho⟩
    · subst hβ
      rw [at_append_new]
      exact ⟨w.heap.size, #[], 0, by simp [renNew], hnew, .inr rfl, rfl, fun i k v hx => by simp at hx⟩
    · rw [at_ge (by simp; omega)]
      trivial
  · simp at hβ
    unfold renNew
    rw [if_neg (by omega)]
    exact H.dom β (by omega)
  · unfold renNew at r1 r2
    have key : ∀ β b, (Heap.at (h ++ [.map kt et []]) β).live → β ≠ h.length → ρ β = some b → b < w.heap.size ∧ (h.at β).live := by
      intro β b l hne hr
      have hβ : β < h.length := by
        rcases Nat.lt_or_ge β h.length with h1 | h1
        · exact h1
        · rw [H.dom β h1] at hr; cases hr
      rw [at_append_lt hβ] at l
      refine ⟨?_, l⟩
      have := H.blk β
      exact br_lt this l hr
    by_cases e1 : β = h.length <;> by_cases e2 : β' = h.length
    · rw [e1, e2]
    · rw [if_pos e1] at r1
      rw [if_neg e2] at r2
      cases r1
      have := (key β' _ l2 e2 r2).1
      omega
    · rw [if_neg e1] at r1
      rw [if_pos e2] at r2
      cases r2
      have := (key β _ l1 e1 r1).1
      omega
    · rw [if_neg e1] at r1
      rw [if_neg e2] at r2
      exact H.inj β β' b (key β b l1 e1 r1).2 (key β' b l2 e2 r2).2 r1 r2
  · rcases hb with hb | rfl
    · have := H.own b hb
      simp; omega
    · simp
  · unfold renNew at r
    by_cases e : β = h.length
    · rw [if_pos e] at r
      cases r
      exact H.base
    · rw [if_neg e] at r
      have hβ : β < h.length := by
        rcases Nat.lt_or_ge β h.length with h1 | h1
        · exact h1
        · rw [H.dom β h1] at r; cases r
      rw [at_append_lt hβ] at l
      exact H.low β b l r
  · have := H.base
    simp
    omega

/-- What a type of plain keys is. -/
theorem plainT_run (hT : TyAll P E) {k : TypeId} (h : plainT E k = true) : ∃ ti d, E.ty k = some ti ∧ P.underlying k = some d ∧ ∀ (x : AV) (cx : Value), projsOk ti.flat [x] = true → VR ρ own w x cx → IsKey d cx := by
  unfold plainT at h
  split at h
  · rename_i i hi
    obtain ⟨d, d1, d2⟩ := (hT _ _ hi).d
    refine ⟨i, d, hi, d1, fun x cx hx hv => ?_⟩
    split at h
    · rename_i q q' hd hf
      rw [hf] at hx
      have hqq : q = q' := by simpa using h
      subst hqq
      rw [hd] at d2
      cases d <;> simp [descOk] at d2
      subst d2
      cases x <;> simp [projsOk, projOk, AV.isI] at hx
      unfold VR at hv
      subst hv
      exact hx
    · rename_i hd hf
      rw [hf] at hx
      rw [hd] at d2
      cases d <;> simp [descOk] at d2
      cases x <;> simp [projsOk, projOk, AV.isS] at hx
      unfold VR at hv
      subst hv
      trivial
    · rename_i hd hf
      rw [hf] at hx
      rw [hd] at d2
      cases d <;> simp [descOk] at d2
      cases x <;> simp [projsOk, projOk, AV.isB] at hx
      unfold VR at hv
      subst hv
      trivial
    · cases h
  · cases h

/-- The place of a key. -/
theorem findA_sound {kt : TypeId} {ti : TI} (hti : E.ty kt = some ti) {d : TypeDesc} (hK : ∀ (x : AV) (cx : Value), projsOk ti.flat [x] = true → VR ρ own w x cx → IsKey d cx) {k : AV} {ck : Value} (hk : VR ρ own w k ck) :
    ∀ (es : List (AV × AV)) (ms : List MapEntry) (i : Nat) (r : Option (Nat × AV)), ms.length = es.length → (∀ (i : Nat) (k v : AV), es[i]? = some (k, v) → ∃ e, ms[i]? = some e ∧ VR ρ own w k e.key ∧ VR ρ own w v e.val) →
      findA E kt k es i = some r → (es ≠ [] → IsKey d ck) ∧ (r = none ∧ Instr.findNow d ck ms i = some none ∨ ∃ j v cv e, r = some (i + j, v) ∧ Instr.findNow d ck ms i = some (some (i + j, cv)) ∧ VR ρ own w v cv ∧ j < es.length ∧ ms[j]? = some e ∧ e.key = ck)
  | [], ms, i, r, hl, _, h => by
    simp only [findA, Option.some.injEq] at h
    subst h
    have : ms = [] := List.eq_nil_of_length_eq_zero (by simpa using hl)
    subst this
    exact ⟨fun h => absurd rfl h, .inl ⟨rfl, rfl⟩⟩
  | (k', v) :: es, [], i, r, hl, _, h => by simp at hl
  | (k', v) :: es, m :: ms, i, r, hl, hr, h => by
    unfold findA at h
    rw [hti] at h
    simp only at h
    cases hc : (projsOk ti.flat [k] && projsOk ti.flat [k']) with
    | false => rw [hc] at h; cases h
    | true =>
      rw [hc] at h
      simp only [cond_true] at h
      simp only [Bool.and_eq_true] at hc
      obtain ⟨e, e1, e2, e3⟩ := hr 0 k' v rfl
      simp only [List.getElem?_cons_zero, Option.some.injEq] at e1
      subst e1
      have i1 := hK k ck hc.1 hk
      have i2 := hK k' m.key hc.2 e2
      obtain ⟨q, hq, hiff⟩ := sameNow_of_keys i1 i2
      have hcell : ∀ b, cellEq k k' = some b → (b = true ↔ ck = m.key) := by
        intro b hb
        cases k <;> cases k' <;> simp [cellEq] at hb
        · subst hb
          unfold VR at hk e2
          rw [hk, e2]
          simp
        · obtain ⟨rfl, rfl⟩ := hb
          unfold VR at hk e2
          rw [hk, e2]
          simp
        · subst hb
          unfold VR at hk e2
          rw [hk, e2]
          simp
      refine ⟨fun _ => i1, ?_⟩
      split at h
      · rename_i hce
        simp only [Option.some.injEq] at h
        subst h
        have hck := (hcell true hce).1 rfl
        have : q = true := hiff.2 hck
        subst this
        exact .inr ⟨0, v, m.val, m, rfl, by simp [Instr.findNow, hq], e3, by simp, rfl, hck.symm⟩
      · rename_i hce
        have hck : ck ≠ m.key := fun e => by have := (hcell false hce).2 e; cases this
        have : q = false := by
          cases q with
          | false => rfl
          | true => exact absurd (hiff.1 rfl) hck
        subst this
        obtain ⟨_, ih⟩ := findA_sound hti hK hk es ms (i + 1) r (by simpa using hl) (fun j k v hj => by simpa using hr (j + 1) k v (by simpa using hj)) h
        rcases ih with ⟨rfl, ih⟩ | ⟨j, v', cv, e, rfl, ih, iv, ij, ie, ik⟩
        · exact .inl ⟨rfl, by simp [Instr.findNow, hq, ih]⟩
        · refine .inr ⟨j + 1, v', cv, e, by simp; omega, ?_, iv, by simp; omega, by simpa using ie, ik⟩
          simp [Instr.findNow, hq, ih]
          omega
      · cases h

theorem map_ty (hT : TyAll P E) {ty kt et : TypeId} {ti : TI} (hti : E.ty ty = some ti) (hd : ti.d = .map kt et) : P.underlying ty = some (.map kt et) := by
  obtain ⟨d, d1, d2⟩ := (hT _ _ hti).d
  rw [hd] at d2
  cases d <;> simp [descOk] at d2
  obtain ⟨rfl, rfl⟩ := d2
  exact d1

theorem zeroA_sound (hT : TyAll P E) {e : TypeId} {ei : TI} (he : E.ty e = some ei) : ∃ z, (zeroValue e).run P w = .ok z w ∧ VR ρ own w (zeroA ei) z := by
  obtain ⟨f, z, f1, f2, f3⟩ := (hT _ _ he).zv
  exact ⟨z, by simp [zeroValue, run_typeInfo' f1, f2], ofV_rel ρ own w _ _ f3⟩

def putE (es : List (AV × AV)) (k v : AV) : Option (Nat × AV) → List (AV × AV)
  | none => es ++ [(k, v)]
  | some (i, _) => es.set i (k, v)
/-- A key's and a value's cells: any value but a tuple. -/
theorem mapSet_sound (hT : TyAll P E) (H : HR B ρ own w h) {ty kt et : TypeId} {ti : TI} (hti : E.ty ty = some ti) (hd : ti.d = .map kt et) (hp : plainT E kt = true) {β : Nat} {et' : TypeId} {es : List (AV × AV)} (hβ : h.at β = .map kt et' es) {k v : AV} {ck cv cm : Value}
    (hk : VR ρ own w k ck) (hv : VR ρ own w v cv) (hm : VR ρ own w (.map β) cm) {r : Option (Nat × AV)} (hf : findA E kt k es 0 = some r) (hkk : ∀ q, E.ty kt = some q → projsOk q.flat [k] = true) :
    ∃ w', (Instr.mapUpdate ty cm ck cv).run P w = .ok () w' ∧ HR B ρ own w' (h.set β (.map kt et (putE es k v r))) ∧ Ext B ρ own w ρ own w' := by
  obtain ⟨ki, d, q1, q2, q3⟩ := plainT_run (ρ := ρ) (own := own) (w := w) hT hp
  have hm' := hm
  unfold VR at hm'
  obtain ⟨b, r1, rfl⟩ := hm'
  have hb := H.blk β
  rw [hβ] at hb
  obtain ⟨b', ms, clock, r2, h2, h3, h4, h5⟩ := hb
  rw [r1] at r2
  cases r2
  have hkey := q3 k ck (hkk _ q1) hk
  have hu := map_ty hT hti hd
  obtain ⟨_, hfd⟩ := findA_sound q1 q3 hk es ms.toList 0 r (by simpa using h4) (fun i k v hi => by simpa using h5 i k v hi) hf
  have turn : ∀ (ms' : Array MapEntry) (clock' : Nat) (es' : List (AV × AV)), ms'.size = es'.length → (∀ (i : Nat) (k v : AV), es'[i]? = some (k, v) → ∃ e, ms'[i]? = some e ∧ VR ρ own w k e.key ∧ VR ρ own w v e.val) →
      HR B ρ own { w with heap := w.heap.setIfInBounds b (.map ms' clock') } (h.set β (.map kt et es')) ∧ Ext B ρ own w ρ own { w with heap := w.heap.setIfInBounds b (.map ms' clock') } := by
    intro ms' clock' es' hl hr
    have hs := heap_set (w := w) h2 (o' := .map ms' clock')
    refine hr_turn (b := b) H (by rw [hβ]; trivial) r1 h3 rfl rfl rfl (by simp) (fun k hk => hs.2 k hk) (fun s hs' => ?_) fun hE => ?_
    · unfold World.shape? at hs'
      rw [h2] at hs'
      simp at hs'
    · refine ⟨b, ms', clock', r1, hs.1, h3, hl, fun i k v hi => ?_⟩
      obtain ⟨e, e1, e2, e3⟩ := hr i k v hi
      exact ⟨e, e1, VR.mono hE _ _ e2, VR.mono hE _ _ e3⟩
  rcases hfd with ⟨rfl, hfn⟩ | ⟨j, v', cv', e, rfl, hfn, hv', hj, hje, hjk⟩
  · obtain ⟨t1, t2⟩ := turn (ms.push { key := ck, val := cv, born := clock }) (clock + 1) (es ++ [(k, v)]) (by simp [h4]) (fun i k' v' hi => by
      by_cases hlt : i < es.length
      · rw [List.getElem?_append_left hlt] at hi
        obtain ⟨e, e1, e2⟩ := h5 i k' v' hi
        exact ⟨e, by rw [Array.getElem?_push, if_neg (by omega)]; exact e1, e2⟩
      · rw [List.getElem?_append_right (by omega)] at hi
        have : i - es.length = 0 := by
          rcases Nat.eq_zero_or_pos (i - es.length) with h | h
          · exact h
          · rw [List.getElem?_eq_none (by simp; omega)] at hi; cases hi
        rw [this] at hi
        simp only [List.getElem?_cons_zero, Option.some.injEq, Prod.mk.injEq] at hi
        obtain ⟨rfl, rfl⟩ := hi
        have hie : i = ms.size := by omega
        subst hie
        exact ⟨{ key := ck, val := cv, born := clock }, by simp, hk, hv⟩)
    refine ⟨_, ?_, t1, t2⟩
    simp [Instr.mapUpdate, run_underlying hu, Go.MapKept.run_getObj_map h2, Go.MapKept.run_checkKey q2 hkey, Go.MapKept.run_findKey q2 hfn, Go.MapKept.run_setObj_map _ h2, Result.andThen]
  · have hje' : ms[j]? = some e := by simpa using hje
    obtain ⟨t1, t2⟩ := turn (ms.modify j fun e => { e with key := ck, val := cv }) clock (es.set j (k, v)) (by simp [h4]) (fun i k' v' hi => by
      rw [List.getElem?_set] at hi
      rw [Array.getElem?_modify]
      by_cases hij : j = i
      · subst hij
        rw [if_pos rfl] at hi ⊢
        rw [if_pos hj] at hi
        simp only [Option.some.injEq, Prod.mk.injEq] at hi
        obtain ⟨rfl, rfl⟩ := hi
        rw [hje']
        exact ⟨_, rfl, hk, hv⟩
      · rw [if_neg hij] at hi ⊢
        exact h5 i k' v' hi)
    refine ⟨_, ?_, by simpa [putE] using t1, t2⟩
    simp only [Nat.zero_add] at hfn
    simp [Instr.mapUpdate, run_underlying hu, Go.MapKept.run_getObj_map h2, Go.MapKept.run_checkKey q2 hkey, Go.MapKept.run_findKey q2 hfn, hje', hjk, run_keyThatStays hkey, Go.MapKept.run_setObj_map _ h2, Result.andThen]

theorem lookup_sound (hT : TyAll P E) (H : HR B ρ own w h) {ty kt et : TypeId} {ti : TI} (hti : E.ty ty = some ti) (hd : ti.d = .map kt et) (hp : plainT E kt = true) {β : Nat} {et' : TypeId} {es : List (AV × AV)} (hβ : h.at β = .map kt et' es) {k : AV} {ck cm : Value}
    (hk : VR ρ own w k ck) (hm : VR ρ own w (.map β) cm) {r : Option (Nat × AV)} (hf : findA E kt k es 0 = some r) (hkk : ∀ q, E.ty kt = some q → projsOk q.flat [k] = true) {v : AV} {b' : Bool}
    (hr : (r = none ∧ ∃ ei, E.ty et = some ei ∧ v = zeroA ei ∧ b' = false) ∨ (∃ i, r = some (i, v) ∧ b' = true)) (ok : Bool) :
    ∃ cv, (Instr.lookup ty cm ck ok).run P w = .ok cv w ∧ VR ρ own w (cond ok (.tup [v, .bool b']) v) cv := by
  obtain ⟨ki, d, q1, q2, q3⟩ := plainT_run (ρ := ρ) (own := own) (w := w) hT hp
  have hm' := hm
  unfold VR at hm'
  obtain ⟨b, r1, rfl⟩ := hm'
  have hb := H.blk β
  rw [hβ] at hb
  obtain ⟨b'', ms, clock, r2, h2, h3, h4, h5⟩ := hb
  rw [r1] at r2
  cases r2
  have hkey := q3 k ck (hkk _ q1) hk
  have hu := map_ty hT hti hd
  obtain ⟨_, hfd⟩ := findA_sound q1 q3 hk es ms.toList 0 r (by simpa using h4) (fun i k v hi => by simpa using h5 i k v hi) hf
  have fin : ∀ (cv : Value), VR ρ own w v cv → VR ρ own w (cond ok (.tup [v, .bool b']) v) (if ok = true then .tuple #[cv, .bool b'] else cv) := by
    intro cv hv
    cases ok with
    | false => exact hv
    | true =>
      simp only [cond_true, if_true]
      unfold VR
      refine ⟨_, rfl, ?_⟩
      unfold LR
      refine ⟨_, _, rfl, hv, ?_⟩
      unfold LR
      refine ⟨_, _, rfl, vbool.2 rfl, ?_⟩
      unfold LR
      rfl
  rcases hfd with ⟨rfl, hfn⟩ | ⟨j, v', cv', e, rfl, hfn, hv', hj, hje, hjk⟩
  · rcases hr with ⟨_, ei, he, rfl, rfl⟩ | ⟨i, hi, _⟩
    · obtain ⟨z, z1, z2⟩ := zeroA_sound (ρ := ρ) (own := own) (w := w) hT he
      refine ⟨_, ?_, fin z z2⟩
      simp [Instr.lookup, run_underlying hu, Go.MapKept.run_getObj_map h2, Go.MapKept.run_checkKey q2 hkey, Go.MapKept.run_findKey q2 hfn, Result.andThen, z1]
    · cases hi
  · rcases hr with ⟨h0, _⟩ | ⟨i, hi, rfl⟩
    · cases h0
    · simp only [Option.some.injEq, Prod.mk.injEq] at hi
      obtain ⟨_, rfl⟩ := hi
      refine ⟨_, ?_, fin cv' hv'⟩
      simp [Instr.lookup, run_underlying hu, Go.MapKept.run_getObj_map h2, Go.MapKept.run_checkKey q2 hkey, Go.MapKept.run_findKey q2 hfn, Result.andThen]

theorem run_loadBytes' : ∀ (l : List Int) (a : Addr) (acc : ByteArray), (∀ j x, l[j]? = some x → w.cell? (a.add j) = some (.int .u8 x)) →
    (loadBytes a acc l.length).run P w = .ok ⟨acc.data ++ (l.map fun m => UInt8.ofNat m.toNat).toArray⟩ w
  | [], a, acc, _ => by simp [loadBytes]
  | x :: l, a, acc, h => by
    have h0 : w.cell? a = some (.int .u8 x) := by
      have := h 0 x rfl
      simpa [Addr.add] using this
    have ih := run_loadBytes' l (a.add 1) (acc.push (UInt8.ofNat x.toNat)) (fun j y hy => by
      have := h (j + 1) y (by simpa using hy)
      rw [add_add, Nat.add_comm 1 j]
      exact this)
    have hx : (x.toNat).toUInt8 = UInt8.ofNat x.toNat := rfl
    simp only [List.length_cons, loadBytes, Sem.run_bind, run_load, h0, Result.andThen, hx]
    rw [ih]
    congr 1
    apply ByteArray.ext
    simp [ByteArray.push]

/-- unsafe.String over a row of bytes of one's own: the row is given up. -/
theorem unsafeString_sound (hT : TyAll P E) (H : HR B ρ own w h) {pt it ty e : TypeId} {pi : TI} (hpi : E.ty pt = some pi) (hd : pi.d = .ptr e) (hb : isBytes E e = true) {β : Nat} {cs : List AV} (hβ : h.at β = .cells false e cs) {n : Int} (h0 : 0 < n) (hn : n ≤ cs.length)
    (h63 : n ≤ 9223372036854775807) (hall : (cs.take n.toNat).all (AV.isI .u8) = true) {cp cn : Value} (hp : VR ρ own w (.ptr β 0) cp) (hcn : VR ρ own w (.int .i64 n) cn) :
    ∃ w' cv, (Builtin.unsafeString_ #[pt, it] ty #[cp, cn]).run P w = .ok cv w' ∧ HR B ρ own w' (h.set β .dead) ∧ Ext B ρ own w ρ own w' ∧ VR ρ own w' (.str (cellsBytes (cs.take n.toNat))) cv := by
  obtain ⟨dp, d1, d2⟩ := (hT _ _ hpi).d
  rw [hd] at d2
  cases dp <;> simp [descOk] at d2
  rename_i e'
  rw [d2] at d1
  unfold VR at hp
  obtain ⟨b, r1, rfl⟩ := hp
  rw [vint] at hcn
  subst hcn
  have hbr := H.blk β
  rw [hβ] at hbr
  obtain ⟨b', m, r2, sh, hm, hcell, hro, _⟩ := hbr
  rw [r1] at r2
  cases r2
  obtain ⟨hown, hfr⟩ := hro rfl
  have hu8 := isBytes_run hT hb
  have hc1 : P.cellsOf e = 1 := by
    unfold isBytes at hb
    split at hb
    · rename_i i hi
      split at hb
      · rename_i hid
        obtain ⟨f, z, f1, f2, _⟩ := (hT _ _ hi).info
        have : i.size = 1 := (hT _ _ hi).one (by unfold TI.isAgg; rw [hid])
        simp [Program.cellsOf, f1, f2, this]
      · cases hb
    · cases hb
  have hnn : n = ((n.toNat : Nat) : Int) := by omega
  let l : List Int := (cs.take n.toNat).map AV.toI
  have hll : l.length = n.toNat := by simp [l]; omega
  have hcl : ∀ j x, l[j]? = some x → w.cell? ((⟨b, 0, none⟩ : Addr).add j) = some (.int .u8 x) := by
    intro j x hx
    simp only [l, List.getElem?_map, Option.map_eq_some_iff] at hx
    obtain ⟨c, hc, rfl⟩ := hx
    have hc' := List.all_eq_true.1 hall c (List.mem_of_getElem? hc)
    rw [List.getElem?_take] at hc
    split at hc
    · obtain ⟨v, k1, k2, _⟩ := hcell j c hc
      cases c <;> simp [AV.isI] at hc'
      subst hc'
      rw [vint] at k2
      subst k2
      rw [add_off, Nat.zero_add]
      exact k1
    · cases hc
  have hlb := run_loadBytes' (P := P) l ⟨b, 0, none⟩ .empty hcl
  rw [hll] at hlb
  have hlies := Lib.liesAt_bytes (P := P) hc1 (m / P.cellsOf e) n.toNat (by rw [hc1]; simp; omega)
  have hdef : Builtin.unsafeString_ #[pt, it] ty #[.pointer (some ⟨b, 0, none⟩), .int .i64 n] =
      (do
        let n ← asInt (.int .i64 n)
        if n < 0 then runtimePanic (.error "unsafe.String: len out of range")
        if n > IntKind.i64.max then unsupported (.unsafePointer "String: a length above the largest int")
        if n = 0 then pure (.string .empty)
        else if ← variablesAt ⟨b, 0, none⟩ (← elemOf pt) n.toNat then do
          let s ← loadBytes ⟨b, 0, none⟩ .empty n.toNat
          freeze ⟨b, 0, none⟩ n.toNat
          pure (.string s)
        else unsupported (.unsafePointer "String: not so many bytes at ptr")) := rfl
  have hmax : IntKind.i64.max = 9223372036854775807 := rfl
  have hneg : ¬ n < 0 := by omega
  have h63' : ¬ (9223372036854775807 : Int) < n := by omega
  have hne0 : ¬ n = 0 := by omega
  have hn0 : ¬ n.toNat = 0 := by omega
  have hblk : ∃ c fr, w.heap[b]? = some (.cells c e fr) := by
    unfold World.shape? at sh
    split at sh
    · rename_i c t' fr hc
      simp at sh
      exact ⟨c, fr, by rw [hc, sh.1]⟩
    · simp at sh
  obtain ⟨c0, fr0, hblk⟩ := hblk
  obtain ⟨lo, hi⟩ := fr0
  have hlt : b < w.heap.size := (Array.getElem?_eq_some_iff.1 hblk).1
  have hfz : (w.freeze ⟨b, 0, none⟩ n.toNat).heap.size = w.heap.size ∧ (∀ k, k ≠ b → (w.freeze ⟨b, 0, none⟩ n.toNat).heap[k]? = w.heap[k]?) ∧ ∃ fr', (w.freeze ⟨b, 0, none⟩ n.toNat).heap[b]? = some (.cells c0 e fr') := by
    unfold World.freeze
    rw [if_neg hn0]
    refine ⟨by simp, fun k hk => ?_, ?_⟩
    · simp only [Array.getElem?_modify]
      rw [if_neg (Ne.symm hk)]
    · simp only [Array.getElem?_modify, if_true, hblk, Option.map_some]
      exact ⟨_, rfl⟩
  obtain ⟨z1, z2, fr', z3⟩ := hfz
  have hplain : (w.freeze ⟨b, 0, none⟩ n.toNat).os = w.os ∧ (w.freeze ⟨b, 0, none⟩ n.toNat).tape = w.tape ∧ (w.freeze ⟨b, 0, none⟩ n.toNat).output = w.output := by
    unfold World.freeze
    rw [if_neg hn0]
    exact ⟨rfl, rfl, rfl⟩
  obtain ⟨t1, t2⟩ := hr_turn (k := .dead) H (by rw [hβ]; rfl) r1 hown hplain.1 hplain.2.1 hplain.2.2 z1 z2 (fun s hs => by
    rw [shape_of_heap z3]
    rw [shape_of_heap hblk] at hs
    exact hs) (fun _ => trivial)
  refine ⟨_, .string ⟨(cellsBytes (cs.take n.toNat)).toArray⟩, ?_, t1, t2, vstr.2 rfl⟩
  rw [hdef]
  have hz : (⟨ByteArray.empty.data ++ (l.map fun m => UInt8.ofNat m.toNat).toArray⟩ : ByteArray) = ⟨(cellsBytes (cs.take n.toNat)).toArray⟩ := by
    apply ByteArray.ext
    simp [cellsBytes, l, List.map_map]
    rfl
  rw [hz] at hlb
  simp [asInt, asIntOf, hmax, h63', hneg, hne0, variablesAt, sh, elemOf, run_underlying d1, hlies, hlb]

theorem append_zeros_sound (hT : TyAll P E) (H : HR B ρ own w h) {ty it e : TypeId} {ti ii ei : TI} (hti : E.ty ty = some ti) (hd : ti.d = .slice e) (hii : E.ty it = some ii) {kk : IntKind} (hdi : ii.d = .int kk) (he : E.ty e = some ei) {n : Int} (h0 : 0 < n) (hr : roomy n.toNat ei.bytes = true)
    {b : Bool} {cs cn : Value} (hs : VR ρ own w (.emp b) cs) (hn : VR ρ own w (.int .i64 n) cn) (type : TypeId) :
    ∃ w' ρ' own' cv, (Builtin.append_ #[ty, it] type #[cs, cn]).run P w = .ok cv w' ∧ HR B ρ' own' w' (h ++ [.cells false e (zerosOf n.toNat ei.zero)]) ∧ Ext B ρ own w ρ' own' w' ∧ VR ρ' own' w' (.sl h.length ei.size 0 n.toNat) cv := by
  obtain ⟨d, d1, d2⟩ := (hT _ _ hti).d
  rw [hd] at d2
  cases d <;> simp [descOk] at d2
  rename_i e'
  subst d2
  obtain ⟨di, i1, i2⟩ := (hT _ _ hii).d
  rw [hdi] at i2
  cases di <;> simp [descOk] at i2
  unfold VR at hs
  obtain ⟨A, rfl, _⟩ := hs
  rw [vint] at hn
  subst hn
  have Te := hT _ _ he
  obtain ⟨f, z, f1, f2, f3, f4, f5, f6⟩ := Te.info
  have hr' := roomy_le hr
  have hpos := Te.pos
  have hb : n.toNat ≤ 35184372088832 := Nat.le_trans (Nat.le_mul_of_pos_right _ hpos) hr'
  have hw : IntKind.i64.wrap n = n := by
    simp [IntKind.wrap, IntKind.signed, IntKind.bits]
    omega
  have z2 := ofVs_rel ρ own w _ _ f5
  have z3 : ∀ x ∈ z.cells.toList, x.oneCell' = true := fun x hx => (Array.all_eq_true_iff_forall_mem.1 f6) x (by simpa using hx)
  have z4 : z.cells.size = ei.size := by rw [← Te.zero, z2.length]; simp
  have hE := ext_drew (B := B) ρ own w
  have hg := grownCap_ge w n.toNat 0 e'
  obtain ⟨vs, v1, v2, v3, v4⟩ := zeros_prefix (n := n.toNat) (m := n.toNat * z.cells.size) z2 z3 (Nat.le_refl _)
  have hmz : ∀ m, madeCells z.cells (m * z.cells.size) = Builtin.zeroCells z.cells m := fun m => rfl
  have hsz : (#[] ++ Builtin.zeroCells z.cells n.toNat ++ Builtin.zeroCells z.cells (grownCap w n.toNat 0 e' - n.toNat)).size = grownCap w n.toNat 0 e' * ei.size := by
    have e1 : grownCap w n.toNat 0 e' * ei.size = n.toNat * ei.size + (grownCap w n.toNat 0 e' - n.toNat) * ei.size := by
      rw [← Nat.add_mul]; congr 1; omega
    simp only [Array.size_append, zeroCells_size, z4]
    simp
    omega
  obtain ⟨q1, q2, q3⟩ := new_sl (sz := ei.size) (len := n.toNat) (cap := grownCap w n.toNat 0 e') H.drew (#[] ++ Builtin.zeroCells z.cells n.toNat ++ Builtin.zeroCells z.cells (grownCap w n.toNat 0 e' - n.toNat)) e' (0, 0) (zerosOf n.toNat ei.zero) (.inl (Nat.le_refl _))
    vs (LR.mono hE _ _ v1) (fun i v hv => by
      have := v4 i v hv
      rw [hmz] at this
      rw [Array.getElem?_append_left (by
        have h1 := (List.getElem?_eq_some_iff.1 hv).1
        simp [zeroCells_size]
        omega)]
      simpa using this) (by
      simp only [Array.size_append, zeroCells_size, v3]
      simp) v2 (by omega) (by rw [hsz]; exact Nat.le_refl _)
  refine ⟨_, _, _, _, ?_, q1, hE.trans q2, q3⟩
  have hneg : ¬ n < 0 := by omega
  have hbig : ¬ n * (f.bytes : Int) > 2 ^ 48 := by
    have e1 : n = (n.toNat : Int) := by omega
    rw [e1, f3]
    have : ((n.toNat * ei.bytes : Nat) : Int) ≤ 35184372088832 := by omega
    rw [Int.natCast_mul] at this
    omega
  have hfit : ¬ n.toNat ≤ 0 := by omega
  have h63 : ¬ ((n.toNat : Nat) : Int) > IntKind.i64.max := by simp [IntKind.max, IntKind.signed, IntKind.bits]; omega
  have h48 : ¬ (Builtin.nextslicecap n.toNat 0 * f.bytes > 2 ^ 48) := by
    have := growslice_fits (need := n.toNat) (old := 0) (bytes := f.bytes) (by omega) (by rw [f3]; simpa using (by omega : n.toNat * ei.bytes ≤ _))
    have e48 : (2 : Nat) ^ 48 = 281474976710656 := by decide
    omega
  have hns : ¬ n.toNat * ei.size = 0 ∨ n.toNat * ei.size = 0 := by omega
  have hz0 : (do if n.toNat * ei.size = 0 then pure #[] else do pure (Builtin.zeroCells (← zeroValue e').cells n.toNat) : Sem (Array Value)).run P w.drew = .ok (Builtin.zeroCells z.cells n.toNat) w.drew := by
    by_cases hq : n.toNat * ei.size = 0
    · rw [if_pos hq]
      have : Builtin.zeroCells z.cells n.toNat = #[] := by
        apply Array.eq_empty_of_size_eq_zero
        rw [zeroCells_size, z4]; exact hq
      rw [this]; rfl
    · rw [if_neg hq]
      simp [zeroValue, run_typeInfo' f1, f4]
  have hfc : (Builtin.firstCells ei.size 0 (.slice A 0 0)).run P w.drew = .ok #[] w.drew := by
    cases A <;> simp [Builtin.firstCells, loadCells, loadCellsFrom]
  have hchoose : (Builtin.append_ #[ty, it] type #[.slice A 0 0, .int .i64 n]).run P w = ((do
      let old ← Builtin.firstCells ei.size 0 (.slice A 0 0)
      let new ← (if n.toNat * ei.size = 0 then pure #[] else do pure (Builtin.zeroCells (← zeroValue e').cells n.toNat) : Sem (Array Value))
      let rest := Builtin.zeroCells (← zeroValue e').cells (grownCap w n.toNat 0 e' - n.toNat)
      pure (.slice (some (← newRow e' (old ++ new ++ rest))) n.toNat (grownCap w n.toNat 0 e'))) : Sem Value).run P w.drew := by
    simp only [Builtin.append_, List.getElem?_toArray, List.getElem?_cons_zero, List.getElem?_cons_succ, Sem.run_bind, run_underlying d1, Result.andThen_ok, run_sizeOf' Te, run_underlying i1, Sem.run_pure, if_true, asInt, asIntOf, hw, if_neg hneg, run_typeInfo' f1, hbig, if_false, pure_bind, Nat.zero_add, if_neg hfit, h63, false_and, h48, Bool.not_true, Bool.false_eq_true, run_choose, Question.forced, run_askRoom]
    rfl
  rw [hchoose]
  have hzv : (zeroValue e').run P w.drew = .ok z w.drew := by simp [zeroValue, run_typeInfo' f1, f4]
  simp only [Sem.run_bind, hfc, hz0, hzv, Result.andThen_ok, Sem.run_pure, newRow, run_newObj, World.alloc_eq, pure_bind]

theorem actX_sound (hT : TyAll P E) (H : HR B ρ own w h) (T : TR ρ own w t a) {o : Oper} {ans : Ans} (hh : actX E t o h = some ans) (hok : ans.ok = true) :
    ActOk P B ρ own w (execOp a.eval o) ans.v ans.h := by
  have upd : ∀ (ty : TypeId) (m k v : Operand), (∀ n : Sem Unit, True) → (o.op = .insert ty m k v ∨ o.op = .mapUpdate ty m k v) →
      (match E.ty ty, ev t m, ev t k, (ev t v).bind noTup with
      | some ti, some (.map β), some k, some v => match ti.d, h.at β with
        | .map kt et, .map kt' et' es => cond (Nat.beq kt kt' && Nat.beq et et' && plainT E kt && keyOkA E kt k) (match findA E kt k es 0 with
          | some none => some (⟨true, .undef, h.set β (.map kt et (es ++ [(k, v)])), [β]⟩ : Ans)
          | some (some (i, _)) => some ⟨true, .undef, h.set β (.map kt et (es.set i (k, v))), [β]⟩
          | none => none) none
        | _, _ => none
      | _, _, _, _ => none) = some ans → ActOk P B ρ own w (execOp a.eval o) ans.v ans.h := by
    intro ty m k v _ hop hh
    split at hh
    · rename_i ti β k' v' hti hm hk hv
      obtain ⟨hv, hnt⟩ := noTup_eq hv
      split at hh
      · rename_i kt et kt' et' es hd hβ
        cases hc : (Nat.beq kt kt' && Nat.beq et et' && plainT E kt && keyOkA E kt k') with
        | false => rw [hc] at hh; cases hh
        | true =>
          rw [hc] at hh
          simp only [cond_true] at hh
          simp only [Bool.and_eq_true, Nat.beq_eq] at hc
          obtain ⟨⟨⟨rfl, rfl⟩, hp⟩, hko⟩ := hc
          have go : ∀ r, findA E kt k' es 0 = some r → ∃ w', (Instr.mapUpdate ty (a.eval m) (a.eval k) (a.eval v)).run P w = .ok () w' ∧ HR B ρ own w' (h.set β (.map kt et (putE es k' v' r))) ∧ Ext B ρ own w ρ own w' :=
            fun r hf => mapSet_sound hT H hti hd hp hβ (ev_sound T hk) (ev_sound T hv) (ev_sound T hm) hf (fun q hq => by unfold keyOkA at hko; rw [hq] at hko; exact hko)
          have fin : ∀ w', (Instr.mapUpdate ty (a.eval m) (a.eval k) (a.eval v)).run P w = .ok () w' → HR B ρ own w' ans.h → Ext B ρ own w ρ own w' → ans.v = .undef → ActOk P B ρ own w (execOp a.eval o) ans.v ans.h := by
            intro w' h1 h2 h3 h4
            rw [h4]
            refine ⟨.skip, w', ρ, own, undef, ?_, .inr ⟨rfl, rfl⟩, h2, h3, by unfold VR; exact ⟨#[], rfl, by unfold LR; rfl⟩⟩
            unfold execOp
            rcases hop with hop | hop <;> rw [hop] <;> simp only [Sem.run_bind, h1, Result.andThen_ok, Sem.run_pure]
          split at hh
          · rename_i hf
            obtain ⟨w', h1, h2, h3⟩ := go _ hf
            simp only [Option.some.injEq] at hh
            subst hh
            exact fin w' h1 h2 h3 rfl
          · rename_i i v'' hf
            obtain ⟨w', h1, h2, h3⟩ := go _ hf
            simp only [Option.some.injEq] at hh
            subst hh
            exact fin w' h1 h2 h3 rfl
          · cases hh
      · cases hh
    · cases hh
  unfold actX at hh
  split at hh
  · rename_i ty hop
    split at hh
    · rename_i ti hti
      split at hh
      · rename_i k e hd
        cases hp : plainT E k with
        | false => rw [hp] at hh; cases hh
        | true =>
          rw [hp] at hh
          simp only [cond_true, Option.some.injEq] at hh
          subst hh
          obtain ⟨t1, t2⟩ := hr_newMap H k e
          unfold execOp
          rw [hop]
          refine actOk_value ⟨_, _, _, .map (some w.heap.size), ?_, t1, t2, ?_⟩
          · rfl
          · unfold VR
            exact ⟨w.heap.size, by simp [renNew], rfl⟩
      · cases hh
    · cases hh
  · rename_i ty m k v hop
    exact upd ty m k v (fun _ => trivial) (.inl hop) hh
  · rename_i ty m k v hop
    exact upd ty m k v (fun _ => trivial) (.inr hop) hh
  · rename_i ty m k ok hop
    split at hh
    · rename_i ti β k' hti hm hk
      split at hh
      · rename_i kt et kt' et' es hd hβ
        cases hc : (Nat.beq kt kt' && Nat.beq et et' && plainT E kt && keyOkA E kt k') with
        | false => rw [hc] at hh; cases hh
        | true =>
          rw [hc] at hh
          simp only [cond_true] at hh
          simp only [Bool.and_eq_true, Nat.beq_eq] at hc
          obtain ⟨⟨⟨rfl, rfl⟩, hp⟩, hko⟩ := hc
          have go : ∀ r v b', findA E kt k' es 0 = some r → ((r = none ∧ ∃ ei, E.ty et = some ei ∧ v = zeroA ei ∧ b' = false) ∨ (∃ i, r = some (i, v) ∧ b' = true)) →
              ∃ cv, (Instr.lookup ty (a.eval m) (a.eval k) ok).run P w = .ok cv w ∧ VR ρ own w (cond ok (.tup [v, .bool b']) v) cv :=
            fun r v b' hf hr => lookup_sound hT H hti hd hp hβ (ev_sound T hk) (ev_sound T hm) hf (fun q hq => by unfold keyOkA at hko; rw [hq] at hko; exact hko) hr ok
          unfold execOp
          rw [hop]
          split at hh
          · rename_i ei hf he
            obtain ⟨cv, h1, h2⟩ := go _ _ _ hf (.inl ⟨rfl, ei, he, rfl, rfl⟩)
            simp only [Option.some.injEq] at hh
            subst hh
            exact actOk_value ⟨w, ρ, own, cv, h1, H, Ext.refl .., h2⟩
          · rename_i i v hf
            obtain ⟨cv, h1, h2⟩ := go _ _ _ hf (.inr ⟨i, rfl, rfl⟩)
            simp only [Option.some.injEq] at hh
            subst hh
            exact actOk_value ⟨w, ρ, own, cv, h1, H, Ext.refl .., h2⟩
          · cases hh
      · cases hh
    · cases hh
  · rename_i b args argTypes hop
    split at hh
    · rename_i β off n pt it hl hat
      split at hh
      · rename_i e cs pi hβ hpi
        split at hh
        · rename_i e' hd
          cases hc : (Nat.beq e e' && isBytes E e && Nat.beq off 0) with
          | false => rw [hc] at hh; cases hh
          | true =>
            rw [hc] at hh
            simp only [cond_true, Option.some.injEq] at hh
            subst hh
            simp only [Bool.and_eq_true, Nat.beq_eq] at hc
            obtain ⟨⟨rfl, hb⟩, rfl⟩ := hc
            simp only [Bool.and_eq_true, decide_eq_true_eq] at hok
            obtain ⟨⟨⟨h0, hn⟩, hall⟩, h63⟩ := hok
            have hargs : LR ρ own w [.ptr β 0, .int .i64 n] (args.map a.eval).toList := by
              rw [Array.toList_map]
              exact evs_sound T hl
            unfold LR at hargs
            obtain ⟨c1, r, e1, hv1, hr⟩ := hargs
            unfold LR at hr
            obtain ⟨c2, r', e2, hv2, hr2⟩ := hr
            unfold LR at hr2
            subst hr2
            subst e2
            have e' : args.map a.eval = #[c1, c2] := Array.ext' e1
            have hat' : argTypes = #[pt, it] := Array.ext' hat
            obtain ⟨w', cv, q1, q2, q3, q4⟩ := unsafeString_sound (it := it) (ty := o.type) hT H hpi hd hb hβ h0 hn h63 hall hv1 hv2
            unfold execOp
            rw [hop]
            have : (do let d ← resolve a.eval { callee := .builtin .unsafeString, args := args, argTypes := argTypes } o.type; invoke d.target d.args).run P w = .ok (.value cv) w' :=
              run_builtin_value (s := fun _ => Builtin.unsafeString_ argTypes o.type (args.map a.eval)) rfl (fun _ => rfl) fun _ => by rw [e', hat']; exact q1
            exact ⟨.value cv, w', ρ, own, cv, this, .inl rfl, q2, q3, VR.mono q3 _ _ (by rw [vstr]; rw [vstr] at q4; exact q4)⟩
        · cases hh
      · cases hh
    · rename_i bb n ty it hl hat
      split at hh
      · rename_i ti ii hti hii
        split at hh
        · rename_i e kk hd hdi
          split at hh
          · rename_i ei he
            simp only [Option.some.injEq] at hh
            subst hh
            simp only [Bool.and_eq_true, decide_eq_true_eq] at hok
            have hargs : LR ρ own w [.emp bb, .int .i64 n] (args.map a.eval).toList := by
              rw [Array.toList_map]
              exact evs_sound T hl
            unfold LR at hargs
            obtain ⟨c1, r, e1, hv1, hr⟩ := hargs
            unfold LR at hr
            obtain ⟨c2, r', e2, hv2, hr2⟩ := hr
            unfold LR at hr2
            subst hr2
            subst e2
            have e' : args.map a.eval = #[c1, c2] := Array.ext' e1
            have hat' : argTypes = #[ty, it] := Array.ext' hat
            obtain ⟨w', ρ', own', cv, q1, q2, q3, q4⟩ := append_zeros_sound hT H hti hd hii hdi he hok.1 hok.2 hv1 hv2 o.type
            unfold execOp
            rw [hop]
            have : (do let d ← resolve a.eval { callee := .builtin .append, args := args, argTypes := argTypes } o.type; invoke d.target d.args).run P w = .ok (.value cv) w' :=
              run_builtin_value (s := fun _ => Builtin.append_ argTypes o.type (args.map a.eval)) rfl (fun _ => rfl) fun _ => by rw [e', hat']; exact q1
            exact ⟨.value cv, w', ρ', own', cv, this, .inl rfl, q2, q3, q4⟩
          · cases hh
        · cases hh
      · cases hh
    · cases hh
  · cases hh

theorem actA_sound (hT : TyAll P E) (H : HR B ρ own w h) (T : TR ρ own w t a) {o : Oper} {ans : Ans} (hh : actA E t o h = some ans) (hok : ans.ok = true) :
    ActOk P B ρ own w (execOp a.eval o) ans.v ans.h := by
  unfold actA at hh
  split at hh
  · rename_i r hr
    simp only [Option.some.injEq] at hh
    subst hh
    exact actA0_sound hT H T hr hok
  · exact actX_sound hT H T hh hok
end
end Go.Abs
