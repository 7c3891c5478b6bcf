import Derived.Test.YtaifmmemfmapkaaGreatSb
import Derived.Test.YtaifmmemfmapkaaGreatSa
import Derived.Test.YtaifmmemfmapkaaGreatMods
set_option linter.unusedVariables false
namespace Go.Abs.R
open Go.Proofs Go.RowKit Go.Abs
/-- strings.Builder.grow of a builder without a buffer -/
def grC : Contracts := fun f args h => bif Nat.beq f 156 then (match args, h with
  | [.ptr 0 0, .int .i64 n], [.cells false 154 [.ptr 0 0, .emp true]] => some ⟨decide (0 ≤ n) && decide (n ≤ 1099511627776), .tup [], [.cells false 154 [.ptr 0 0, .sl 1 1 0 0], .cells false 5 []], [0, 1]⟩
  | _, _ => none) else strC f args h
theorem grC_ok : CtrOk Tryz.prog grC := by
  intro f args h ans hc hok
  unfold grC at hc
  cases hb : Nat.beq f 156 with
  | false => rw [hb] at hc; exact strC_ok f args h ans hc hok
  | true =>
    rw [hb] at hc
    have := Nat.eq_of_beq_eq_true hb
    subst this
    simp only [cond_true] at hc
    split at hc
    · rename_i n
      simp only [Option.some.injEq] at hc
      subst hc
      simp only [Bool.and_eq_true, decide_eq_true_eq] at hok
      refine ⟨⟨_, Tryz.func156, by decide +kernel, by decide +kernel⟩, ?_, ?_⟩
      · intro β hβ
        simp at hβ
        match β, hβ with
        | 0, h => exact absurd rfl h.1
        | 1, h => exact absurd rfl h.2
        | n + 2, _ => rfl
      · intro B ρ own w cargs H hl
        obtain ⟨m, rfl⟩ := Int.eq_ofNat_of_zero_le hok.1
        have hl' := hl
        unfold LR at hl'
        obtain ⟨c0, r, e1, hv, hr⟩ := hl'
        unfold LR at hr
        obtain ⟨c1, r', e2, hv2, hr⟩ := hr
        unfold LR at hr
        subst hr; subst e2
        have e' : cargs = #[c0, c1] := Array.ext' e1
        subst e'
        unfold VR at hv hv2
        obtain ⟨b, r1, rfl⟩ := hv
        subst hv2
        have hbk := H.blk 0
        obtain ⟨b', n', r2, sh, hn, hcell, hro, _⟩ := hbk
        rw [r1] at r2
        cases r2
        obtain ⟨v, k1, k2, k3⟩ := hcell 1 (.emp true) rfl
        have k2' := k2
        unfold VR at k2'
        obtain ⟨A, rfl, hA⟩ := k2'
        have hA := hA rfl
        subst hA
        obtain ⟨hown, hfr⟩ := hro rfl
        have hblt := shape_lt sh
        simp only [List.length_cons, List.length_nil] at hn
        refine (grow_fresh b m w k1 (hfr 1 (by omega)) hblt (by omega)).mono ?_
        rintro e w' ⟨rfl, cs, hcs, rfl⟩
        have e3 : (w.setCell ⟨b, 1, none⟩ (.slice (some ⟨w.heap.size, 0, none⟩) 0 cs.size)).alloc (.cells cs 5) = (w.alloc (.cells cs 5)).setCell ⟨b, 1, none⟩ (.slice (some ⟨w.heap.size, 0, none⟩) 0 cs.size) := by
          first | exact (World.setCell_alloc_past _ _ _ _ _ hblt).symm | exact (World.setCell_alloc_past _ _ _ _ _ hblt) | simp [World.setCell_alloc_past, hblt]
        rw [e3]
        obtain ⟨q1, q2, q3⟩ := new_sl H cs 5 (0, 0) [] (.inl (Nat.le_refl _)) [] (by unfold LR; rfl) (by simp) (by simp) (by simp) (len := 0) (cap := cs.size) (sz := 1) (by omega) (by omega)
        obtain ⟨s1, s2, _⟩ := hr_setCells (β := 0) (b := b) (off := 1) (t := 154) (cs := [.ptr 0 0, .emp true]) («as» := [.sl 1 1 0 0]) (vs := [.slice (some ⟨w.heap.size, 0, none⟩) 0 cs.size]) q1 rfl (q2.ren _ _ r1) (by unfold LR; exact ⟨_, _, rfl, q3, by unfold LR; rfl⟩) (by simp [Value.oneCell']) (by simp)
        exact ⟨_, _, _, _, _, rfl, ⟨rfl, rfl⟩, s1.drew.drew.drew, ((q2.trans s2).trans (ext_drew _ _ _)).trans ((ext_drew _ _ _).trans (ext_drew _ _ _)), tup0⟩
    · cases hc
noncomputable def EY (T : Tbl) : Env := ⟨tyTab, fnTab, tblP T, noR, withC T grC⟩
theorem EY_ok {T : Tbl} (h : ∀ p ∈ T, PureOk Tryz.prog p.1 p.2) : EnvOk Tryz.prog (EY T) := envOk_of tab_ok fns_ok noR_ok (tblP_ok h) (withC_ok h grC_ok) (by decide +kernel)
end Go.Abs.R

namespace Go.Abs.R
open Go.Abs Go.Proofs
set_option maxRecDepth 100000
set_option linter.unusedVariables false
set_option linter.unusedSimpArgs false
def shE (n a b c : Int) : AV × AV := (.int .i64 n, .agg [.int .i64 a, .int .i64 b, .int .i64 c])
def shL : List (AV × AV) := [shE 1 4 0 0, shE 28 16 0 0, shE 2 0 1 0, shE 5 0 1 0, shE 12 0 1 0, shE 6 0 2 20, shE 15 2 1 0, shE 33 6 1 0]
theorem findA_int (T : Tbl) (k n : Int) (v : AV) (es : List (AV × AV)) (i : Nat) : findA (EY T) 3 (.int .i64 k) ((.int .i64 n, v) :: es) i = bif k == n then some (some (i, v)) else findA (EY T) 3 (.int .i64 k) es (i + 1) := by
  show (match some (k == n) with | some true => some (some (i, v)) | some false => findA (EY T) 3 (.int .i64 k) es (i + 1) | none => none) = _
  cases k == n <;> rfl
theorem findA_nil (T : Tbl) (k : AV) (i : Nat) : findA (EY T) 3 k [] i = some none := rfl
/-- A look into the shapes. -/
theorem look_sh (T : Tbl) (t : Nat → AV) (h : Heap) (k : Int) (o : Oper) (ho : o.op = .lookup 207 (.tmp 26) (.tmp 27) true) (hm : t 26 = .map 0) (hk : t 27 = .int .i64 k) (hh : Heap.at h 0 = .map 3 205 shL) :
    actA (EY T) t o h = some ⟨true, .tup [.agg [.int .i64 (shA k), .int .i64 (shN k), .int .i64 (shZ k)], .bool (shB k)], h, []⟩ := by
  obtain ⟨d, op, ty, pos, aft, g⟩ := o
  subst ho
  unfold actA
  have e0 : actA0 (EY T) t { dst := d, op := .lookup 207 (.tmp 26) (.tmp 27) true, type := ty, pos := pos, after := aft, guard := g } h = none := by unfold actA0; rfl
  rw [e0]
  unfold actX
  have e1 : (EY T).ty 207 = some ty207 := rfl
  have e2 : ev t (.tmp 26) = some (.map 0) := by simp [ev, hm]
  have e3 : ev t (.tmp 27) = some (.int .i64 k) := by simp [ev, hk]
  simp only [e1, e2, e3, hh]
  show (match findA (EY T) 3 (.int .i64 k) shL 0, (EY T).ty 205 with
        | some none, some ei => some (⟨true, cond true (.tup [zeroA ei, .bool false]) (zeroA ei), h, []⟩ : Ans)
        | some (some (_, v)), _ => some ⟨true, cond true (.tup [v, .bool true]) v, h, []⟩
        | _, _ => none) = _
  have e4 : (EY T).ty 205 = some ty205 := rfl
  have e5 : zeroA ty205 = .agg [.int .i64 0, .int .i64 0, .int .i64 0] := rfl
  simp only [shL, shE, findA_int, findA_nil, e4]
  unfold shA shN shZ shB
  by_cases h1 : k = 1
  · subst h1; rfl
  by_cases h2 : k = 28
  · subst h2; rfl
  by_cases h3 : k = 2
  · subst h3; rfl
  by_cases h4 : k = 5
  · subst h4; rfl
  by_cases h5 : k = 12
  · subst h5; rfl
  by_cases h6 : k = 6
  · subst h6; rfl
  by_cases h7 : k = 15
  · subst h7; rfl
  by_cases h8 : k = 33
  · subst h8; rfl
  have f : ∀ n, k ≠ n → (k == n) = false := fun n h => by simpa using h
  simp only [f 1 h1, f 28 h2, f 2 h3, f 5 h4, f 12 h5, f 6 h6, f 15 h7, f 33 h8, cond_false, cond_true, e5, if_neg h1, if_neg h2, if_neg h3, if_neg h4, if_neg h5, if_neg h6, if_neg h7, if_neg h8, Bool.or_false]
end Go.Abs.R
