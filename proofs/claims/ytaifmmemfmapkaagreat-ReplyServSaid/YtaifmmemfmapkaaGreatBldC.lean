import Derived.Test.YtaifmmemfmapkaaGreatAbsEd
import Derived.Lib.Builder
import Derived.Laws.Externs
import Derived.Shelf.RegionOpenPlain
import Derived.WalkKit
import Derived.Lib.Walk
import Derived.Lib.Slices
import Derived.Test.YtaifmmemfmapkaaGreatProg
set_option linter.unusedVariables false
namespace Go.Abs.R
open Go.Proofs Go.RowKit
set_option maxHeartbeats 1000000 in
set_option maxRecDepth 100000 in
theorem copyCheck_used (b off : Nat) (w : World) (h0 : w.cell? ⟨b, off, none⟩ = some (.pointer (some ⟨b, off, none⟩))) :
    Calls Tryz.prog 119 #[.pointer (some ⟨b, off, none⟩)] w fun e w' => e = .returned (.tuple #[]) ∧ w' = w := by
  go_enter Tryz.func119, Tryz.ntmps119
  go_wp2
  rw [Lib.run_neq_ptr_same w _ Tryz.underlying152 (info_of Tryz.type154)]
  go_wp2
  go_end0
  exact ⟨rfl, rfl⟩
set_option maxHeartbeats 1000000 in
set_option maxRecDepth 100000 in
theorem copyCheck_fresh (b off n : Nat) (t : TypeId) (w : World) (h0 : w.cell? ⟨b, off, none⟩ = some (.pointer none)) (hsh : w.shape? b = some (t, n)) (hoff : off < n) (hlies : liesAt Tryz.prog Tryz.prog.depth t (n / Tryz.prog.cellsOf t) off 154 1 = true) (hfz : w.frozen? ⟨b, off, none⟩ = false) :
    Calls Tryz.prog 119 #[.pointer (some ⟨b, off, none⟩)] w fun e w' => e = .returned (.tuple #[]) ∧ w' = w.setCell ⟨b, off, none⟩ (.pointer (some ⟨b, off, none⟩)) := by
  have hj := info_of Tryz.type154
  go_enter Tryz.func119, Tryz.ntmps119
  go_wp2
  rw [Lib.run_to_unsafe w ⟨b, off, none⟩ Tryz.underlying152 Tryz.underlying195 hj (by decide +kernel) hsh hoff]
  simp only [Result.andThen]
  rw [Oper.upon_value]
  go_wp2
  rw [run_callFunc_extern Tryz.func139 (by kernel_rfl) (by kernel_rfl) (by kernel_rfl) (e := Extern.AbiNoEscape.same) (by kernel_rfl)]
  rw [Lib.run_noEscape]
  simp only [Result.andThen]
  rw [Oper.upon_value]
  go_wp2
  rw [Lib.run_from_unsafe w ⟨b, off, none⟩ Tryz.underlying195 Tryz.underlying152 hj hsh hlies]
  simp only [Result.andThen]
  rw [Oper.upon_value]
  go_wp2
  go_end0
  exact ⟨rfl, rfl⟩

theorem rowAt_mono {p : Program} {fits : TypeId → Bool} : ∀ (d : Nat) (e : TypeId) (c c' off n : Nat), c ≤ c' → rowAt p fits d e c off n = true → rowAt p fits d e c' off n = true
  | 0, _, _, _, _, _, _, h => by simp [rowAt] at h
  | d + 1, e, c, c', off, n, hc, h => by
    unfold rowAt at h ⊢
    simp only at h ⊢
    split at h
    · cases h
    · rename_i hs
      rw [if_neg hs]
      simp only [Bool.or_eq_true, Bool.and_eq_true, decide_eq_true_eq] at h ⊢
      rcases h with ⟨⟨h1, h2⟩, h3⟩ | ⟨h1, h2⟩
      · exact .inl ⟨⟨h1, by omega⟩, h3⟩
      · exact .inr ⟨by omega, h2⟩
theorem liesAt_mono {p : Program} : ∀ (d : Nat) (e : TypeId) (c c' off : Nat) (u : TypeId) (n : Nat), c ≤ c' → liesAt p d e c off u n = true → liesAt p d e c' off u n = true
  | 0, _, _, _, _, _, _, _, h => by simp [liesAt] at h
  | d + 1, e, c, c', off, u, n, hc, h => by
    unfold liesAt at h ⊢
    simp only [Bool.or_eq_true] at h ⊢
    rcases h with h | h
    · exact .inl (rowAt_mono _ _ _ _ _ _ hc h)
    · right
      split at h
      · exact liesAt_mono d e c c' off _ _ hc h
      · cases h

/-- Where a strings.Builder stands. -/
def okB (t : TypeId) (off len : Nat) : Bool := (Nat.beq t 154 && Nat.beq off 0 && Nat.ble 2 len) || (Nat.beq t 200 && Nat.beq off 4 && Nat.ble 6 len)
theorem lies154 : liesAt Tryz.prog Tryz.prog.depth 154 1 0 154 1 = true := by decide +kernel
theorem lies200 : liesAt Tryz.prog Tryz.prog.depth 200 1 4 154 1 = true := by decide +kernel
theorem cells154 : Tryz.prog.cellsOf 154 = 2 := by decide +kernel
theorem cells200 : Tryz.prog.cellsOf 200 = 6 := by decide +kernel
theorem okB_lies {t : TypeId} {off len n : Nat} (h : okB t off len = true) (hn : len ≤ n) : off < len ∧ liesAt Tryz.prog Tryz.prog.depth t (n / Tryz.prog.cellsOf t) off 154 1 = true := by
  unfold okB at h
  simp only [Bool.or_eq_true, Bool.and_eq_true, Nat.beq_eq, Nat.ble_eq] at h
  rcases h with ⟨⟨rfl, rfl⟩, h⟩ | ⟨⟨rfl, rfl⟩, h⟩
  · exact ⟨by omega, liesAt_mono _ _ _ _ _ _ _ (by rw [cells154]; omega) lies154⟩
  · exact ⟨by omega, liesAt_mono _ _ _ _ _ _ _ (by rw [cells200]; omega) lies200⟩

def bldC : Contracts := fun f args h => cond (Nat.beq f 119) (match args with
  | [.ptr β off] => match h.at β with
    | .cells false t cs => cond (okB t off cs.length) (match cs[off]? with
      | some .nilp => some ⟨true, .tup [], h.set β (.cells false t (setCells cs off [.ptr β off])), [β]⟩
      | some (.ptr γ o) => cond (Nat.beq γ β && Nat.beq o off) (some ⟨true, .tup [], h, []⟩) none
      | _ => none) none
    | _ => none
  | _ => none) none

theorem tup0 {ρ : Nat → Option Nat} {own : Nat → Prop} {w : World} : VR ρ own w (.tup []) (.tuple #[]) := by
  unfold VR
  exact ⟨#[], rfl, by unfold LR; rfl⟩

theorem bldC_ok : CtrOk Tryz.prog bldC := by
  intro f args h ans hc hok
  unfold bldC at hc
  cases hf : Nat.beq f 119 with
  | false => rw [hf] at hc; cases hc
  | true =>
    rw [hf] at hc
    simp only [cond_true] at hc
    have := Nat.eq_of_beq_eq_true hf
    subst this
    have hent : Enters Tryz.prog 119 := ⟨_, Tryz.func119, by decide +kernel, by decide +kernel⟩
    split at hc
    · rename_i β off
      split at hc
      · rename_i t cs hβ
        cases hk : okB t off cs.length with
        | false => rw [hk] at hc; cases hc
        | true =>
          rw [hk] at hc
          simp only [cond_true] at hc
          split at hc
          · rename_i hcs
            simp only [Option.some.injEq] at hc
            subst hc
            refine ⟨hent, fun γ hγ => at_set_other (Ne.symm (by simpa using hγ)), fun B ρ own w cargs H hl => ?_⟩
            have hl' := hl
            unfold LR at hl'
            obtain ⟨cv, r, e1, hv, hr⟩ := hl'
            unfold LR at hr
            subst hr
            have e' : cargs = #[cv] := Array.ext' e1
            subst e'
            have hv' := hv
            unfold VR at hv'
            obtain ⟨b, r1, rfl⟩ := hv'
            have hb := H.blk β
            rw [hβ] at hb
            obtain ⟨b', n, r2, sh, hn, hcell, hro, _⟩ := hb
            rw [r1] at r2
            cases r2
            obtain ⟨hown, hfr⟩ := hro rfl
            obtain ⟨k1, k2⟩ := okB_lies hk hn
            obtain ⟨v, c1, c2, _⟩ := hcell off _ hcs
            unfold VR at c2
            subst c2
            have hwalk := copyCheck_fresh b off n t w c1 sh (by omega) k2 (hfr _ (by omega))
            refine hwalk.mono ?_
            rintro e w' ⟨rfl, rfl⟩
            have hone : (Value.pointer (some ⟨b, off, none⟩)).oneCell' = true := rfl
            obtain ⟨q1, q2, _⟩ := hr_setCells («as» := [.ptr β off]) (vs := [.pointer (some ⟨b, off, none⟩)]) (off := off) H hβ r1 (by unfold LR; exact ⟨_, _, rfl, by unfold VR; exact ⟨b, r1, rfl⟩, by unfold LR; rfl⟩) (by simp [hone]) (by simp; omega)
            exact ⟨_, _, _, ρ, own, rfl, ⟨rfl, rfl⟩, q1, q2, tup0⟩
          · rename_i γ o hcs
            cases hg : (Nat.beq γ β && Nat.beq o off) with
            | false => rw [hg] at hc; cases hc
            | true =>
              rw [hg] at hc
              simp only [cond_true, Option.some.injEq] at hc
              subst hc
              simp only [Bool.and_eq_true, Nat.beq_eq] at hg
              obtain ⟨rfl, rfl⟩ := hg
              refine ⟨hent, fun γ hγ => rfl, fun B ρ own w cargs H hl => ?_⟩
              have hl' := hl
              unfold LR at hl'
              obtain ⟨cv, r, e1, hv, hr⟩ := hl'
              unfold LR at hr
              subst hr
              have e' : cargs = #[cv] := Array.ext' e1
              subst e'
              have hv' := hv
              unfold VR at hv'
              obtain ⟨b, r1, rfl⟩ := hv'
              have hb := H.blk γ
              rw [hβ] at hb
              obtain ⟨b', n, r2, sh, hn, hcell, hro, _⟩ := hb
              rw [r1] at r2
              cases r2
              obtain ⟨v, c1, c2, _⟩ := hcell o _ hcs
              unfold VR at c2
              obtain ⟨b2, r3, rfl⟩ := c2
              rw [r1] at r3
              cases r3
              refine (copyCheck_used b o w c1).mono ?_
              rintro e w' ⟨rfl, rfl⟩
              exact ⟨_, _, _, ρ, own, rfl, ⟨rfl, rfl⟩, H, Ext.refl .., tup0⟩
          · cases hc
      · cases hc
    · cases hc
end Go.Abs.R
