import Derived.Test.YtaifmmemfmapkaaGreatAbsFa
import Derived.Test.YtaifmmemfmapkaaGreatAbsFb
set_option linter.unusedVariables false
namespace Go.Abs
open Go.RowKit

/-- A function that takes and gives values alone. -/
theorem purev {P : Program} {E : Env} {G : Gen} (hE : EnvOk P E) (hG : GenOk P G) {f : FuncId} {fn : Func} (hf : P.funcs[f]? = some fn) (hok : fnOk fn = true) {args : List AV} {v : AV} (hs : Solids args)
    (hk : awqFn E G fn args [] fun v' h' => FinV h' v v') :
    Enters P f ∧ ∀ B ρ own w h (cargs : Array Value), HR B ρ own w h → LR ρ own w args cargs.toList → Calls P f cargs w (CallPost B ρ own w fun v' h' => v' = v ∧ h' = h) := by
  obtain ⟨h1, h2⟩ := awqFn_sound hE hG hf hok hk
  refine ⟨h1, fun B ρ own w h cargs H hl => ?_⟩
  have H0 : HR w.heap.size (fun _ => none) own w [] := ⟨fun β => by simp [Heap.at, BR], fun _ _ => rfl, fun _ _ _ l => by simp [Heap.at, Blk.live] at l, (fun _ _ e => by cases e), H.own, fun β b l => by simp [Heap.at, Blk.live] at l, Nat.le_refl _⟩
  refine (h2 w.heap.size (fun _ => none) own w cargs (fun _ => rfl) H0 (LR.solid (fun _ h => h) _ _ hs hl)).mono ?_
  rintro e w' ⟨v', h', cv, ρ', own', rfl, hf, H', E', V'⟩
  have hE' : Ext B ρ own w ρ own w' := ⟨E'.os, E'.tape, E'.output, E'.size, fun _ _ h => h, fun b hb ho => ⟨E'.low b hb, ho⟩, E'.shape, fun b hb => E'.low b (Nat.lt_of_lt_of_le hb H.base), fun _ h => h⟩
  refine ⟨v, h, cv, ρ, own, rfl, ⟨rfl, rfl⟩, H.still hE' fun b hb => E'.low b hb, hE', ?_⟩
  exact fin_sound H' E'.grow (fun β b _ hl hb ho => by have h1 := H'.low β b hl hb; have h2 := H.own b ho; omega) v v' cv hf V'

def tblP : Tbl → FuncId → List AV → Option (Bool × AV)
  | [], _, _ => none
  | (k, g) :: r, f, args => cond (Nat.beq k f) (g args) (tblP r f args)
theorem tblP_ok {P : Program} : ∀ {t : Tbl}, (∀ p ∈ t, PureOk P p.1 p.2) → CpOk P (tblP t)
  | [], _ => fun f args v hc => by cases hc
  | (k, g) :: r, hp => by
    intro f args v hc
    unfold tblP at hc
    cases hb : Nat.beq k f with
    | false => rw [hb] at hc; exact tblP_ok (fun p hp' => hp p (by simp [hp'])) f args v hc
    | true =>
      rw [hb] at hc
      have := Nat.eq_of_beq_eq_true hb
      subst this
      exact hp (k, g) (by simp) args v hc
/-- The table's contracts ahead of others. -/
def withC (T : Tbl) (C : Contracts) : Contracts := fun f args h => match tblP T f args with
  | some (c, v) => some ⟨c, v, h, []⟩
  | none => C f args h
theorem withC_ok {P : Program} {T : Tbl} {C : Contracts} (hT : ∀ p ∈ T, PureOk P p.1 p.2) (hC : CtrOk P C) : CtrOk P (withC T C) := by
  intro f args h ans hc hok
  unfold withC at hc
  split at hc
  · rename_i c v hp
    simp only [Option.some.injEq] at hc
    subst hc
    simp only at hok
    subst hok
    obtain ⟨h1, h2⟩ := tblP_ok hT f args v hp
    exact ⟨h1, fun _ _ => rfl, fun B ρ own w cargs H hl => h2 B ρ own w h cargs H hl⟩
  · exact hC f args h ans hc hok
/-- What is to be shown of a function that takes and gives values alone. -/
def Spec (E : Env) (fn : Func) (g : List AV → Option (Bool × AV)) : Prop := ∀ args v, g args = some (true, v) → Solids args ∧ awqFn E (inl E 9) fn args [] fun v' h' => FinV h' v v'
theorem Spec.ok {P : Program} {E : Env} {f : FuncId} {fn : Func} {g : List AV → Option (Bool × AV)} (hE : EnvOk P E) (hf : P.funcs[f]? = some fn) (hok : fnOk fn = true) (h : Spec E fn g) : PureOk P f g := by
  intro args v hg
  obtain ⟨h1, h2⟩ := h args v hg
  exact purev hE (inl_ok hE 9) hf hok h1 h2
/-- One slot of a state that is known. -/
theorem pin {t : Nat → AV} {d : Nat} {v : AV} (e : t d = v) {Q : (Nat → AV) → Prop} (h : Q (upd t d v)) : Q t := by rwa [upd_same e] at h
/-- A value of which the form is not known is put into its slot. -/
theorem withV_any {t : Nat → AV} (d : Nat) {v : AV} {K : (Nat → AV) → Prop} (h : K (upd t d v)) : withV.match_1 (fun _ => Prop) v (fun b => K (upd t d (.bool b))) (fun k n => K (upd t d (.int k n))) (fun s => K (upd t d (.str s))) (fun _ => K (upd t d .nilp)) (fun _ => K (upd t d .nilm)) (fun _ => K (upd t d .nilf)) (fun _ => K (upd t d .nili)) (fun β o => K (upd t d (.ptr β o))) (fun cs => K (upd t d (.rp cs))) (fun β sz o n => K (upd t d (.sl β sz o n))) (fun sz xs => K (upd t d (.row sz xs))) (fun b => K (upd t d (.emp b))) (fun β => K (upd t d (.map β))) (fun f a c => K (upd t d (.fn f a c))) (fun u v => K (upd t d (.ifc u v))) (fun cs => K (upd t d (.agg cs))) (fun vs => K (upd t d (.tup vs))) (fun _ => K (upd t d .any)) := by
  cases v <;> exact h
theorem renL_eq {σ : Nat → Nat} {L : Nat} {F : AV → AV → Prop} {as bs : List AV} (hs : Solids as) (e : bs = as) : RenL σ L F as bs := by rw [e]; exact RenL.solid as hs
end Go.Abs
