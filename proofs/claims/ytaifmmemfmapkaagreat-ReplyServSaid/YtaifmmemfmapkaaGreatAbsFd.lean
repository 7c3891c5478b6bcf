import Derived.Test.YtaifmmemfmapkaaGreatAbsFc
import Derived.ProofKit
import Derived.OpenShut
import Derived.Carry
set_option linter.unusedVariables false
namespace Go.Abs
open Go.RowKit Go.ChangeShapes

theorem Ext.below {B : Nat} {ρ ρ' : Nat → Option Nat} {own own' : Nat → Prop} {w w' : World} (h : Ext B ρ own w ρ' own' w') : Below B w w' :=
  ⟨h.os, h.tape, h.output, h.size, h.low⟩

theorem trodAll_carry {H : Type} {enc : TypeId × Value → H} {P : Program} (hl : laidOutB P = true) {W W' : World} (hb : Below W.heap.size W W') :
    ∀ {ts : List TypeId} {vs : List Value} {ds : List (DataW H)} {ps : List MemPlace}, (ts.all fun t => P.readableRec t && decide (t < P.types.size)) = true →
      DataW.TrodAll enc P W 0 (fun _ => true) true ts vs ds ps → (∀ x ∈ ps, x.block < W.heap.size) → DataW.TrodAll enc P W' 0 (fun b => decide (b < W.heap.size)) true ts vs ds ps
  | [], vs, ds, ps, _, h, _ => by
    obtain ⟨rfl, rfl, rfl⟩ := trodAll_nil h
    exact trodAll_mk0
  | t :: ts, vs, ds, ps, hr, h, hlt => by
    obtain ⟨v, vs', d, ds', p, q, rfl, rfl, rfl, h0, h1⟩ := trodAll_cons h
    simp only [List.all_cons, Bool.and_eq_true, decide_eq_true_eq] at hr
    obtain ⟨⟨r1, r2⟩, r3⟩ := hr
    exact trodAll_cons_mk (Below.trod hl r1 r2 h0 hb fun x hx => hlt x (by simp [hx])) (trodAll_carry hl hb (by simpa using r3) h1 fun x hx => hlt x (by simp [hx]))

/-- WHAT A LAW'S ROW ASKS BEHIND THE CALL. -/
theorem law_post {H : Type} {enc : TypeId × Value → H} {P : Program} (hl : laidOutB P = true) {f : Func} {s : ChangeSpec} {tb : TypeId} (htb : P.underlying tb = some .bool) (hres : f.resultTypes = #[tb]) (hvars : s.vars = [])
    (hread : (f.params.toList.all fun t => P.readableRec t && decide (t < P.types.size)) = true) {W W' : World} {args : Array Value} {ds gs : List (DataW H)} {before : List MemPlace}
    (hs : ∀ ds : List (DataW H), ds.length = f.params.size → s.fn H ds = { results := [.lit (.bool true)], args := ds })
    (hW : DataW.Whole enc P f.params.toList s.vars false W args.toList ds gs before) (hb : Below W.heap.size W W') :
    s.post enc P f false true false false W args (.bool true) W' := by
  have hW' := hW
  obtain ⟨p, q, hA, hV, e, hz, hn⟩ := hW
  rw [hvars] at hV
  obtain ⟨rfl, rfl⟩ := trodVars_none hV
  subst e
  have hlen : ds.length = f.params.size := by
    have : ∀ {ts : List TypeId} {vs : List Value} {ds : List (DataW H)} {ps : List MemPlace}, DataW.TrodAll enc P W 0 (fun _ => true) true ts vs ds ps → ds.length = ts.length := by
      intro ts
      induction ts with
      | nil => intro vs ds ps h; obtain ⟨_, rfl, _⟩ := trodAll_nil h; rfl
      | cons t ts ih =>
        intro vs ds ps h
        obtain ⟨v, vs', d, ds', p, q, rfl, rfl, rfl, h0, h1⟩ := trodAll_cons h
        simp [ih h1]
    have := this hA
    simpa using this
  have hfn : s.fn H (ds ++ []) = { results := [.lit (.bool true)], args := ds } := by rw [List.append_nil]; exact hs ds hlen
  have hlt : ∀ x ∈ p, x.block < W.heap.size := fun x hx => hW'.lt x (by simpa using hx)
  refine ⟨ds, [], p ++ [], [], p, [], hW', ?_, ?_, ?_, hb.frame _, fun h => by cases h⟩
  · rw [hres, hfn]
    exact trodAll_cons_mk (shut_bool htb true) trodAll_mk0
  · rw [hfn]
    exact trodAll_carry hl hb hread hA hlt
  · rw [hfn, hvars]
    rfl

/-- From the machine's run to the call's. -/
theorem law_calls {P : Program} {E : Env} {G : Gen} (hE : EnvOk P E) (hG : GenOk P G) {f : FuncId} {fn : Func} (hf : P.funcs[f]? = some fn) (hok : fnOk fn = true) {args : List AV} {W : World} {cargs : Array Value}
    (hl : LR (fun _ => none) (fun _ => False) W args cargs.toList) (hk : awpFn E G fn args [] fun v h => v = .bool true) :
    Calls P f cargs W fun e w' => e = .returned (.bool true) ∧ Below W.heap.size W w' := by
  obtain ⟨_, h2⟩ := awpFn_sound hE hG hf hok hk
  have H0 : HR W.heap.size (fun _ => none) (fun _ => False) W [] := ⟨fun β => by simp [Heap.at, BR], fun _ _ => rfl, fun _ _ _ l => by simp [Heap.at, Blk.live] at l, (fun _ _ e => by cases e), fun _ h => h.elim, fun β b l => by simp [Heap.at, Blk.live] at l, Nat.le_refl _⟩
  refine (h2 W.heap.size _ _ W cargs H0 hl).mono ?_
  rintro e w' ⟨v', h', cv, ρ', own', rfl, hv, H', E', V'⟩
  subst hv
  unfold VR at V'
  subst V'
  exact ⟨rfl, E'.below⟩
/-- From the machine's run to the call's. -/
theorem law_callsq {P : Program} {E : Env} {G : Gen} (hE : EnvOk P E) (hG : GenOk P G) {f : FuncId} {fn : Func} (hf : P.funcs[f]? = some fn) (hok : fnOk fn = true) {args : List AV} {W : World} {cargs : Array Value}
    (hl : LR (fun _ => none) (fun _ => False) W args cargs.toList) (hk : awqFn E G fn args [] fun v h => v = .bool true) :
    Calls P f cargs W fun e w' => e = .returned (.bool true) ∧ Below W.heap.size W w' := by
  obtain ⟨_, h2⟩ := awqFn_sound hE hG hf hok hk
  have H0 : HR W.heap.size (fun _ => none) (fun _ => False) W [] := ⟨fun β => by simp [Heap.at, BR], fun _ _ => rfl, fun _ _ _ l => by simp [Heap.at, Blk.live] at l, (fun _ _ e => by cases e), fun _ h => h.elim, fun β b l => by simp [Heap.at, Blk.live] at l, Nat.le_refl _⟩
  refine (h2 W.heap.size _ _ W cargs (fun _ => rfl) H0 hl).mono ?_
  rintro e w' ⟨v', h', cv, ρ', own', rfl, hv, H', E', V'⟩
  subst hv
  unfold VR at V'
  subst V'
  exact ⟨rfl, E'.below⟩
end Go.Abs
