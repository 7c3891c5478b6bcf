import Derived.Test.YtaifmmemfmapkaaGreatAbsFc
import Derived.Test.YtaifmmemfmapkaaGreatMods
import Derived.Test.YtaifmmemfmapkaaGreatTyTabP
import Derived.Test.YtaifmmemfmapkaaGreatFnTab
import Derived.Test.YtaifmmemfmapkaaGreatBldC
namespace Go.Abs.R
open Go.Abs Go.Proofs
set_option maxRecDepth 100000
set_option linter.unusedVariables false
set_option linter.unusedSimpArgs false
noncomputable def EW (T : Tbl) : Env := ⟨tyTab, fnTab, tblP T, noR, withC T bldC⟩
def g95 : List AV → Option (Bool × AV)
  | [.int .i64 n] => some (true, .bool (sizedV n))
  | _ => none
theorem s95 : Spec (EW []) Tryz.f95 g95 := by
  intro args v hg
  unfold g95 at hg
  split at hg
  · rename_i n
    simp only [Option.some.injEq, Prod.mk.injEq, true_and, decide_eq_true_eq, Bool.and_eq_true] at hg
    subst hg
    refine ⟨(by simp [Solids, Solid, Solidss]), ?_⟩
    (conv => whnf)
    refine tst (fun h1 => ?_) (fun h1 => ?_) <;> (conv => whnf)
    all_goals (simp_all [sizedV]; try omega)
  · cases hg
def g94 : List AV → Option (Bool × AV)
  | [.str s, .int .i64 a, .int .i64 n] => some (decide (s.length ≤ 1099511627776), .tup [.str (takeS s a n), .bool (takeB s a n)])
  | _ => none
theorem s94 : Spec (EW []) Tryz.f94 g94 := by
  intro args v hg
  unfold g94 at hg
  split at hg
  · rename_i s a n
    simp only [Option.some.injEq, Prod.mk.injEq, true_and, decide_eq_true_eq, Bool.and_eq_true] at hg
    obtain ⟨hs, rfl⟩ := hg
    refine ⟨(by simp [Solids, Solid, Solidss]), ?_⟩
    have neg : (a < 0 ∨ n < 0 ∨ a > s.length ∨ n > s.length - a) → takeB s a n = false := fun h => by
      simp only [takeB, Bool.and_eq_false_imp, Bool.and_eq_true, decide_eq_true_eq, decide_eq_false_iff_not]; omega
    (conv => whnf)
    refine tst (fun h1 => ?_) (fun h1 => ?_) <;> (conv => whnf)
    · simp only [decide_eq_true_eq] at h1
      ((refine ⟨_, _, rfl, ?_, ⟨_, _, rfl, ?_, rfl⟩⟩) <;> (conv => whnf))
      · simp [takeS, neg (.inl h1)]
      · exact (neg (.inl h1)).symm
    refine tst (fun h2 => ?_) (fun h2 => ?_) <;> (conv => whnf)
    · simp only [cond_false, decide_eq_true_eq] at h2
      ((refine ⟨_, _, rfl, ?_, ⟨_, _, rfl, ?_, rfl⟩⟩) <;> (conv => whnf))
      · simp [takeS, neg (.inr (.inl h2))]
      · exact (neg (.inr (.inl h2))).symm
    refine tst (fun h3 => ?_) (fun h3 => ?_) <;> (conv => whnf)
    · simp only [cond_false, decide_eq_true_eq] at h3
      ((refine ⟨_, _, rfl, ?_, ⟨_, _, rfl, ?_, rfl⟩⟩) <;> (conv => whnf))
      · simp [takeS, neg (.inr (.inr (.inl h3)))]
      · exact (neg (.inr (.inr (.inl h3)))).symm
    simp only [cond_false, decide_eq_true_eq, decide_eq_false_iff_not] at h1 h2 h3
    have hw : IntKind.i64.wrap ((s.length : Int) - a) = s.length - a := wr (by omega) (by omega)
    refine tst (fun h4 => ?_) (fun h4 => ?_) <;> (conv => whnf)
    · simp only [cond_false, decide_eq_true_eq, hw] at h4
      ((refine ⟨_, _, rfl, ?_, ⟨_, _, rfl, ?_, rfl⟩⟩) <;> (conv => whnf))
      · simp [takeS, neg (.inr (.inr (.inr h4)))]
      · exact (neg (.inr (.inr (.inr h4)))).symm
    simp only [cond_false, decide_eq_false_iff_not, hw] at h4
    have hb : takeB s a n = true := by simp only [takeB, Bool.and_eq_true, decide_eq_true_eq]; omega
    refine obl ?_ ?_
    · simp [bndOk]; omega
    (conv => whnf)
    refine obl ?_ ?_
    · simp [bndOk]; omega
    (conv => whnf)
    ((refine ⟨_, _, rfl, ?_, ⟨_, _, rfl, ?_, rfl⟩⟩) <;> (conv => whnf))
    · simp only [takeS, if_pos hb, Option.getD_none, Option.getD_some]
      simp [List.take_take]
    · exact hb.symm
  · cases hg
def T1 : Tbl := [(94, g94), (95, g95)]
def g60 : List AV → Option (Bool × AV)
  | [.str s, .int .i64 a, .int .i64 n] => some (decide (s.length ≤ 1099511627776), .tup [.int .i64 (getV s a n), .bool (getB s a n)])
  | _ => none
theorem s60 : Spec (EW T1) Tryz.f60 g60 := by
  intro args v hg
  unfold g60 at hg
  split at hg
  · rename_i s a n
    simp only [Option.some.injEq, Prod.mk.injEq, true_and, decide_eq_true_eq, Bool.and_eq_true] at hg
    obtain ⟨hs, rfl⟩ := hg
    refine ⟨(by simp [Solids, Solid, Solidss]), ?_⟩
    (conv => whnf)
    refine obl (by simpa using hs) ?_
    (conv => whnf)
    refine tst (fun h1 => ?_) (fun h1 => ?_) <;> (conv => whnf)
    · have hb : getB s a n = false := by simp_all [getB]
      ((refine ⟨_, _, rfl, ?_, ⟨_, _, rfl, ?_, rfl⟩⟩) <;> (conv => whnf)) <;> simp [getV, hb]
    have h1' : takeB s a n = true := by simpa using h1
    refine tst (fun h2 => ?_) (fun h2 => ?_) <;> (conv => whnf)
    · have hb : getB s a n = false := by simp_all [getB]
      ((refine ⟨_, _, rfl, ?_, ⟨_, _, rfl, ?_, rfl⟩⟩) <;> (conv => whnf)) <;> simp [getV, hb]
    have hb : getB s a n = true := by simp_all [getB]
    have hn : 1 ≤ n ∧ n ≤ 4 := by simpa [getB, h1', sizedV] using hb
    have hl := takeS_len h1'
    refine loopq (X := Nat) (fun i => (i : Int) ≤ n) (fun i => [(27, .int .i64 i), (26, .int .i64 n), (10, .int .i64 (beV ((takeS s a n).take i))), (8, .str (takeS s a n))]) (fun _ => []) (fun i => 4 - i) ?_ 0 (by omega) ⟨[], rfl, rfl, ⟨⟨rfl, trivial⟩, ⟨rfl, trivial⟩, ⟨rfl, trivial⟩, ⟨rfl, trivial⟩, trivial⟩, trivial⟩
    intro i hi J hn' hx
    (conv => whnf)
    refine tst (fun h3 => ?_) (fun h3 => ?_) <;> (conv => whnf)
    · refine obl ?_ ?_
      · simp only [decide_eq_true_eq] at h3
        simp [idxOk]; omega
      (conv => whnf)
      simp only [decide_eq_true_eq] at h3
      have hil : i < (takeS s a n).length := by omega
      refine hn' (i + 1) _ _ (by omega) (by omega) ⟨[], rfl, rfl, ⟨?_, ⟨rfl, trivial⟩, ?_, ⟨rfl, trivial⟩, trivial⟩, trivial⟩
      · (conv => whnf)
        refine ⟨?_, trivial⟩
        show AV.int .i64 (IntKind.i64.wrap ((i : Int) + 1)) = _
        rw [wr (by omega) (by omega)]; simp
      · (conv => whnf)
        refine ⟨?_, trivial⟩
        have e : (takeS s a n).take (i + 1) = (takeS s a n).take i ++ [(takeS s a n)[i]] := by rw [List.take_add_one, List.getElem?_eq_getElem hil]; rfl
        have e2 : beV ((takeS s a n).take (i + 1)) = beV ((takeS s a n).take i) * 256 + ((takeS s a n)[i].toNat : Int) := by
          rw [e]; simp only [beV, List.foldl_append, List.foldl_cons, List.foldl_nil]
        have hbd := beV_bound ((takeS s a n).take i)
        have hc := ((takeS s a n)[i]).toNat_lt
        have hlt : beV ((takeS s a n).take i) < 4294967296 := by
          have : ((takeS s a n).take i).length ≤ 4 := by simp; omega
          have h3' : 256 ^ ((takeS s a n).take i).length ≤ 256 ^ 4 := Nat.pow_le_pow_right (n := 256) (by omega) this
          have h4 : ((256 ^ ((takeS s a n).take i).length : Nat) : Int) ≤ ((256 ^ 4 : Nat) : Int) := Int.ofNat_le.2 h3'
          rw [Int.natCast_pow] at h4
          exact Int.lt_of_lt_of_le hbd.2 h4
        have gd : ((takeS s a n).getD (Int.toNat (i : Int)) 0) = (takeS s a n)[i] := by
          rw [Int.toNat_natCast, List.getD_eq_getElem?_getD, List.getElem?_eq_getElem hil]; rfl
        have w1 : IntKind.i64.wrap (beV ((takeS s a n).take i) * 256) = beV ((takeS s a n).take i) * 256 := wr (by omega) (by omega)
        have w2 : IntKind.i64.wrap (((takeS s a n)[i].toNat : Nat) : Int) = ((takeS s a n)[i].toNat : Int) := wr (by omega) (by omega)
        show AV.int .i64 (IntKind.i64.wrap ((BitVec.ofInt 64 (IntKind.i64.wrap (beV ((takeS s a n).take i) * 256)) ||| BitVec.ofInt 64 (IntKind.i64.wrap (((takeS s a n).getD (Int.toNat (i : Int)) 0).toNat : Int))).toNat : Int)) = _
        rw [gd, w1, w2, or8 hbd.1 hlt (by omega) (by omega), ← e2]
    · simp only [decide_eq_false_iff_not] at h3
      refine hx _ _ _ (by intro e; cases e) ?_
      (conv => whnf)
      ((refine ⟨_, _, rfl, ?_, ⟨_, _, rfl, ?_, rfl⟩⟩) <;> (conv => whnf))
      · refine ⟨rfl, ?_⟩
        have : (takeS s a n).take i = takeS s a n := List.take_of_length_le (by omega)
        simp only [getV, if_pos hb, this]
      · exact hb.symm
  · cases hg
end Go.Abs.R

namespace Go.Abs
open Go.RowKit
/-- A contract out of the machine's run. -/
theorem ctr_awp {P : Program} {E : Env} (hE : EnvOk P E) {f : FuncId} {fn : Func} (hf : P.funcs[f]? = some fn) (hok : fnOk fn = true) {args : List AV} {h : Heap} {ans : Ans} (hne : h.length ≠ 0)
    (hk : awqFn E (inl E 9) fn args h fun v' h' => v' = ans.v ∧ h' = ans.h) (hT : ∀ β, β ∉ ans.T → ans.h.at β = h.at β) :
    Enters P f ∧ (∀ β, β ∉ ans.T → ans.h.at β = h.at β) ∧ ∀ B ρ own w (cargs : Array Value), HR B ρ own w h → LR ρ own w args cargs.toList → Calls P f cargs w (CallPost B ρ own w fun v h' => v = ans.v ∧ h' = ans.h) := by
  obtain ⟨h1, h2⟩ := awqFn_sound hE (inl_ok hE 9) hf hok hk
  exact ⟨h1, hT, fun B ρ own w cargs H hl => h2 B ρ own w cargs (fun h0 => absurd h0 hne) H hl⟩
end Go.Abs
namespace Go.Abs.R
open Go.Abs Go.Proofs
set_option maxRecDepth 100000
set_option linter.unusedVariables false
set_option linter.unusedSimpArgs false
theorem EW_ok {T : Tbl} (h : ∀ p ∈ T, PureOk Tryz.prog p.1 p.2) : EnvOk Tryz.prog (EW T) := envOk_of tab_ok fns_ok noR_ok (tblP_ok h) (withC_ok h bldC_ok) (by decide +kernel)
/-- strings.Builder.String, of a builder in a reader of comp's -/
def strC : Contracts := fun f args h => bif Nat.beq f 90 then (match args, h with
  | [.ptr 0 4], [.cells false 200 [a, b, c, d, .nilp, .emp true]] => some ⟨true, .str [], [.cells false 200 [a, b, c, d, .nilp, .emp true]], []⟩
  | [.ptr 0 4], [.cells false 200 [a, b, c, d, .ptr 0 4, .sl 1 1 0 k], .cells false 5 bs] => some ⟨decide (0 < k) && decide (k = bs.length) && bs.all (AV.isI .u8) && decide (k ≤ 1099511627776), .str (cellsBytes bs), [.cells false 200 [a, b, c, d, .ptr 0 4, .sl 1 1 0 k], .dead], [1]⟩
  | _, _ => none) else bldC f args h
theorem strC_ok : CtrOk Tryz.prog strC := by
  intro f args h ans hc hok
  unfold strC at hc
  cases hb : Nat.beq f 90 with
  | false => rw [hb] at hc; exact bldC_ok f args h ans hc hok
  | true =>
    rw [hb] at hc
    have := Nat.eq_of_beq_eq_true hb
    subst this
    simp only [cond_true] at hc
    have hE := EW_ok (T := []) (fun p hp => by simp at hp)
    split at hc
    · rename_i a b c d
      simp only [Option.some.injEq] at hc
      subst hc
      refine ctr_awp hE Tryz.func90 ok90 (by simp) ?_ (fun _ _ => rfl)
      (conv => whnf)
      exact ⟨rfl, rfl⟩
    · rename_i a b c d k bs
      simp only [Option.some.injEq] at hc
      subst hc
      refine ctr_awp hE Tryz.func90 ok90 (by simp) ?_ ?_
      · simp only [Bool.and_eq_true, decide_eq_true_eq] at hok
        obtain ⟨⟨⟨k1, k2⟩, k3⟩, k4⟩ := hok
        (conv => whnf)
        refine obl (by simpa using k1) ?_
        (conv => whnf)
        refine obl ?_ ?_
        · have e : (Int.toNat (k : Int)) = k := by omega
          have e2 : List.take (Int.toNat (k : Int)) bs = bs := by rw [e]; exact List.take_of_length_le (by omega)
          simp only [Bool.and_eq_true, decide_eq_true_eq]
          refine ⟨⟨⟨by omega, by omega⟩, ?_⟩, by omega⟩
          rw [e2]; exact k3
        (conv => whnf)
        refine ⟨?_, rfl⟩
        have e : (Int.toNat (k : Int)) = k := by omega
        have e2 : List.take (Int.toNat (k : Int)) bs = bs := by rw [e]; exact List.take_of_length_le (by omega)
        show AV.str (cellsBytes (List.take (Int.toNat (k : Int)) bs)) = _
        rw [e2]
      · intro β hβ
        simp at hβ
        match β, hβ with
        | 0, _ => rfl
        | 1, h => exact absurd rfl h
        | n + 2, _ => rfl
    · cases hc
end Go.Abs.R

namespace Go.Abs.R
open Go.Abs Go.Proofs
set_option maxRecDepth 100000
set_option linter.unusedVariables false
set_option linter.unusedSimpArgs false
noncomputable def EX (T : Tbl) : Env := ⟨tyTab, fnTab, tblP T, noR, withC T strC⟩
theorem EX_ok {T : Tbl} (h : ∀ p ∈ T, PureOk Tryz.prog p.1 p.2) : EnvOk Tryz.prog (EX T) := envOk_of tab_ok fns_ok noR_ok (tblP_ok h) (withC_ok h strC_ok) (by decide +kernel)
def T2 : Tbl := [(60, g60), (94, g94), (95, g95)]
inductive RS where
  | run (k : Nat) (a l n : Int) (acc : Bs)
  | stop (e : Int)
def RS.I (s : Bs) (R : Bs × Int × Int) : RS → Prop
  | .run k a l n acc => rdN s k a l n acc = R ∧ l.toNat * 256 + (255 - acc.length) < k ∧ acc.length < 255 ∧ -1 ≤ n
  | .stop e => R = ([], 0, e) ∧ e ≠ 0
def RS.S : RS → List (Nat × AV)
  | .run _ _ _ _ _ => [(7, .ptr 0 0), (8, .int .i64 0)]
  | .stop e => [(8, .int .i64 e)]
def RS.H (s : Bs) : RS → Heap
  | .run _ a l n [] => [.cells false 200 [.str s, .int .i64 a, .int .i64 l, .int .i64 n, .nilp, .emp true]]
  | .run _ a l n (c :: acc) => [.cells false 200 [.str s, .int .i64 a, .int .i64 l, .int .i64 n, .ptr 0 4, .sl 1 1 0 (c :: acc).length], .cells false 5 (bytesCells (c :: acc))]
  | .stop _ => []
def RS.μ : RS → Nat
  | .run k _ _ _ _ => k + 1
  | .stop _ => 0
def g123 : List AV → Option (Bool × AV)
  | [.str s, .int .i64 a] => some (decide (s.length ≤ 1099511627776) && decide (a ≤ 1099511627776), .tup [.str (rdV s a).1, .int .i64 (rdV s a).2.1, .int .i64 (rdV s a).2.2])
  | _ => none
theorem cb_bytesCells (b : Bs) : cellsBytes (bytesCells b) = b := by
  unfold cellsBytes bytesCells
  rw [List.map_map]
  conv => rhs; rw [← List.map_id b]
  refine List.map_congr_left fun x _ => ?_
  simp [AV.toI]
theorem all_bytesCells (b : Bs) : (bytesCells b).all (AV.isI .u8) = true := by
  simp [bytesCells, AV.isI]
theorem bytesCells_length (b : Bs) : (bytesCells b).length = b.length := by simp [bytesCells]
theorem solid_bytesCells (b : Bs) : Solids (bytesCells b) := by
  rw [solids_iff]
  intro x hx
  simp only [bytesCells, List.mem_map] at hx
  obtain ⟨y, _, rfl⟩ := hx
  unfold Solid; trivial
theorem ren_reader {F : AV → AV → Prop} {s : Bs} {a l n a' l' n' : Int} {k k' i j : Nat} (ha : a' = a) (hl : l' = l) (hn : n' = n) (hk : k' = k) :
    RenL (fun β => [i, j].getD β 0) 2 F [.str s, .int .i64 a, .int .i64 l, .int .i64 n, .ptr 0 4, .sl 1 1 0 k] [.str s, .int .i64 a', .int .i64 l', .int .i64 n', .ptr i 4, .sl j 1 0 k'] := by
  subst ha; subst hl; subst hn; subst hk
  exact ⟨_, _, rfl, ⟨rfl, trivial⟩, _, _, rfl, ⟨rfl, trivial⟩, _, _, rfl, ⟨rfl, trivial⟩, _, _, rfl, ⟨rfl, trivial⟩, _, _, rfl, ⟨rfl, rfl⟩, _, _, rfl, ⟨rfl, rfl⟩, rfl⟩
theorem s123 : Spec (EX T2) Tryz.f123 g123 := by
  intro args v hg
  unfold g123 at hg
  split at hg
  · rename_i s a0
    simp only [Option.some.injEq, Prod.mk.injEq, true_and, decide_eq_true_eq, Bool.and_eq_true] at hg
    obtain ⟨⟨hs, ha0⟩, rfl⟩ := hg
    refine ⟨(by simp [Solids, Solid, Solidss]), ?_⟩
    generalize hR : rdV s a0 = R
    (conv => whnf)
    refine loopq (RS.I s R) RS.S (RS.H s) RS.μ ?_ (.run (a0.toNat * 256 + 256) a0 a0 (-1) []) ⟨hR, by simp, by simp, by omega⟩ ⟨[0], rfl, rfl, ⟨⟨rfl, rfl⟩, ⟨rfl, trivial⟩, trivial⟩, ⟨⟨_, rfl, RenL.solid _ (by simp [Solids, Solid, Solidss])⟩, trivial⟩⟩
    rintro (⟨k, a, l, n, acc⟩ | e) hI J hn hx
    · obtain ⟨h1, h2, h3, h4⟩ := hI
      obtain ⟨k, rfl⟩ : ∃ m, k = m + 1 := ⟨k - 1, by omega⟩
      unfold rdN at h1
      cases acc with
      | nil =>
        (conv => whnf)
        refine obl (by simpa using hs) ?_
        (conv => whnf)
        refine tst (fun h5 => ?_) (fun h5 => ?_)
        · have gb : getB s a 1 = false := by simpa using h5
          rw [if_neg (by simp [gb])] at h1
          subst h1
          (conv => whnf)
          refine hx _ _ _ (by intro e; cases e) ?_
          (conv => whnf)
          ((refine ⟨_, _, rfl, ?_, ⟨_, _, rfl, ?_, ⟨_, _, rfl, ?_, rfl⟩⟩⟩) <;> (conv => whnf)) <;> exact ⟨rfl, rfl⟩
        have gb : getB s a 1 = true := by simpa using h5
        have gbi := getB_iff.1 gb
        rw [if_pos gb] at h1
        (conv => whnf)
        refine tst (fun h6 => ?_) (fun h6 => ?_)
        · have gz : getV s a 1 = 0 := by simpa using h6
          rw [if_pos gz] at h1
          subst h1
          (conv => whnf)
          have wa : IntKind.i64.wrap (a + 1) = a + 1 := wr (by omega) (by omega)
          refine tst (fun h7 => ?_) (fun h7 => ?_) <;> (conv => whnf)
          · have g7 : n = -1 := by simpa using h7
            refine hx _ _ _ (by intro e; cases e) ?_
            (conv => whnf)
            (refine ⟨_, _, rfl, ?_, ⟨_, _, rfl, ?_, ⟨_, _, rfl, ?_, rfl⟩⟩⟩) <;> (conv => whnf)
            · refine ⟨rfl, ?_⟩
              show IntKind.i64.wrap (a + 1) = _
              simp [g7, wa]
            · exact ⟨rfl, rfl⟩
          · have g7 : n ≠ -1 := by simpa using h7
            refine hx _ _ _ (by intro e; cases e) ?_
            (conv => whnf)
            (refine ⟨_, _, rfl, ?_, ⟨_, _, rfl, ?_, ⟨_, _, rfl, ?_, rfl⟩⟩⟩) <;> (conv => whnf)
            · refine ⟨rfl, ?_⟩
              show n = _
              simp [g7]
            · exact ⟨rfl, rfl⟩
        have gz : getV s a 1 ≠ 0 := by simpa using h6
        rw [if_neg gz] at h1
        (conv => whnf)
        refine tst (fun h7 => ?_) (fun h7 => ?_)
        · have gp : 192 ≤ getV s a 1 := by simpa using h7
          rw [if_pos gp] at h1
          (conv => whnf)
          refine obl (by simpa using hs) ?_
          (conv => whnf)
          refine tst (fun h8 => ?_) (fun h8 => ?_)
          · have gc : getB s a 2 = false := by simpa using h8
            rw [if_neg (by simp [gc])] at h1
            subst h1
            (conv => whnf)
            refine hn (.stop 2) _ _ ⟨rfl, by decide⟩ (Nat.succ_pos _) ⟨[], rfl, rfl, ⟨⟨rfl, trivial⟩, trivial⟩, trivial⟩
          have gc : getB s a 2 = true := by simpa using h8
          rw [if_pos gc] at h1
          have g21 := get21 gc
          have gu : getV s a 2 < 65536 := by simpa using getV_lt s a 2
          have wp : IntKind.i64.wrap (getV s a 2 - 49152) = getV s a 2 - 49152 := wr (by omega) (by omega)
          (conv => whnf)
          refine tst (fun h9 => ?_) (fun h9 => ?_)
          · have gl : l ≤ getV s a 2 - 49152 := by simpa [wp] using h9
            rw [if_pos gl] at h1
            subst h1
            (conv => whnf)
            refine hn (.stop 3) _ _ ⟨rfl, by decide⟩ (Nat.succ_pos _) ⟨[], rfl, rfl, ⟨⟨rfl, trivial⟩, trivial⟩, trivial⟩
          have gl : ¬ l ≤ getV s a 2 - 49152 := by simpa [wp] using h9
          rw [if_neg gl] at h1
          (conv => whnf)
          refine tst (fun h10 => ?_) (fun h10 => ?_) <;> (conv => whnf)
          · have g7 : n = -1 := by simpa using h10
            refine hn (.run k (getV s a 2 - 49152) (getV s a 2 - 49152) (a + 2) []) _ _ ⟨?_, ?_, by simp, by omega⟩ (Nat.lt_succ_self _) ⟨[0], rfl, rfl, ⟨⟨rfl, rfl⟩, ⟨rfl, trivial⟩, trivial⟩, ⟨⟨[.str s, .int .i64 (IntKind.i64.wrap (getV s a 2 - 49152)), .int .i64 (IntKind.i64.wrap (getV s a 2 - 49152)), .int .i64 (IntKind.i64.wrap (a + 2)), .nilp, .emp true], rfl, ?_⟩, trivial⟩⟩
            · simpa [g7] using h1
            · simp only [List.length_nil] at h2 ⊢; omega
            · rw [wp, wr (x := a + 2) (by omega) (by omega)]; exact RenL.solid _ (by simp [Solids, Solid, Solidss])
          · have g7 : n ≠ -1 := by simpa using h10
            refine hn (.run k (getV s a 2 - 49152) (getV s a 2 - 49152) n []) _ _ ⟨?_, ?_, by simp, by omega⟩ (Nat.lt_succ_self _) ⟨[0], rfl, rfl, ⟨⟨rfl, rfl⟩, ⟨rfl, trivial⟩, trivial⟩, ⟨⟨[.str s, .int .i64 (IntKind.i64.wrap (getV s a 2 - 49152)), .int .i64 (IntKind.i64.wrap (getV s a 2 - 49152)), .int .i64 n, .nilp, .emp true], rfl, ?_⟩, trivial⟩⟩
            · simpa [g7] using h1
            · simp only [List.length_nil] at h2 ⊢; omega
            · rw [wp]; exact RenL.solid _ (by simp [Solids, Solid, Solidss])
        have gp : ¬ 192 ≤ getV s a 1 := by simpa using h7
        rw [if_neg gp] at h1
        (conv => whnf)
        refine tst (fun h8 => ?_) (fun h8 => ?_)
        · have gm : 63 < getV s a 1 := by simpa using h8
          rw [if_pos gm] at h1
          subst h1
          (conv => whnf)
          refine hn (.stop 3) _ _ ⟨rfl, by decide⟩ (Nat.succ_pos _) ⟨[], rfl, rfl, ⟨⟨rfl, trivial⟩, trivial⟩, trivial⟩
        have gm : ¬ 63 < getV s a 1 := by simpa using h8
        rw [if_neg gm] at h1
        have gu : getV s a 1 < 256 := by simpa using getV_lt s a 1
        have gv := (getV_bound s a 1).1
        (conv => whnf)
        refine obl (by simpa using hs) ?_
        have wz : IntKind.i64.wrap (1 + getV s a 1) = 1 + getV s a 1 := wr (by omega) (by omega)
        rw [wz]
        (conv => whnf)
        refine tst (fun h9 => ?_) (fun h9 => ?_)
        · have gt : takeB s a (1 + getV s a 1) = false := by simpa using h9
          rw [if_neg (by simp [gt])] at h1
          subst h1
          (conv => whnf)
          refine hn (.stop 2) _ _ ⟨rfl, by decide⟩ (Nat.succ_pos _) ⟨[], rfl, rfl, ⟨⟨rfl, trivial⟩, trivial⟩, trivial⟩
        have gt : takeB s a (1 + getV s a 1) = true := by simpa using h9
        rw [if_pos gt] at h1
        have hl := takeS_len gt
        generalize hq : takeS s a (1 + getV s a 1) = q at *
        obtain ⟨x, q, rfl⟩ : ∃ x q', q = x :: q' := by
          cases q with
          | nil => simp at hl; omega
          | cons x q => exact ⟨x, q, rfl⟩
        (conv => whnf)
        have wl : IntKind.i64.wrap (0 + ((x :: q).length : Int)) = ((x :: q).length : Int) := by rw [wr (by omega) (by omega)]; omega
        refine tst (fun h10 => ?_) (fun h10 => ?_)
        · have gx : 255 ≤ ((([] : Bs).length : Nat) : Int) + (1 + getV s a 1) := by
            have : (255 : Int) ≤ IntKind.i64.wrap (0 + ((x :: q).length : Int)) := by simpa using h10
            rw [wl] at this
            simp only [List.length_nil]
            omega
          rw [if_pos gx] at h1
          subst h1
          (conv => whnf)
          refine hn (.stop 3) _ _ ⟨rfl, by decide⟩ (Nat.succ_pos _) ⟨[], rfl, rfl, ⟨⟨rfl, trivial⟩, trivial⟩, trivial⟩
        have gx : ¬ 255 ≤ ((([] : Bs).length : Nat) : Int) + (1 + getV s a 1) := by
          have : ¬ (255 : Int) ≤ IntKind.i64.wrap (0 + ((x :: q).length : Int)) := by simpa using h10
          rw [wl] at this
          simp only [List.length_nil]
          omega
        rw [if_neg gx] at h1
        (conv => whnf)
        refine obl ?_ ?_
        · simp only [Bool.true_and, roomy, Nat.ble_eq]
          show (x :: q).length * 1 ≤ _
          omega
        (conv => whnf)
        have wa : IntKind.i64.wrap (a + ((x :: q).length : Int)) = a + (1 + getV s a 1) := by rw [wr (by omega) (by omega)]; omega
        refine hn (.run k (a + (1 + getV s a 1)) l n (x :: q)) _ _ ⟨by simpa using h1, ?_, by simp only [List.length_nil] at gx; omega, h4⟩ (Nat.lt_succ_self _) ⟨[0, 1], rfl, rfl, ⟨⟨rfl, rfl⟩, ⟨rfl, trivial⟩, trivial⟩, ⟨⟨[.str s, .int .i64 (IntKind.i64.wrap (a + ((x :: q).length : Int))), .int .i64 l, .int .i64 n, .ptr 0 4, .sl 1 1 0 (x :: q).length], rfl, ?_⟩, ⟨bytesCells (x :: q), rfl, RenL.solid _ (solid_bytesCells _)⟩, trivial⟩⟩
        · simp only [List.length_nil, List.length_cons] at h2 ⊢; omega
        · exact ren_reader wa rfl rfl rfl
      | cons c acc =>
        (conv => whnf)
        refine obl (by simpa using hs) ?_
        (conv => whnf)
        refine tst (fun h5 => ?_) (fun h5 => ?_)
        · have gb : getB s a 1 = false := by simpa using h5
          rw [if_neg (by simp [gb])] at h1
          subst h1
          (conv => whnf)
          refine hx _ _ _ (by intro e; cases e) ?_
          (conv => whnf)
          ((refine ⟨_, _, rfl, ?_, ⟨_, _, rfl, ?_, ⟨_, _, rfl, ?_, rfl⟩⟩⟩) <;> (conv => whnf)) <;> exact ⟨rfl, rfl⟩
        have gb : getB s a 1 = true := by simpa using h5
        have gbi := getB_iff.1 gb
        rw [if_pos gb] at h1
        (conv => whnf)
        refine tst (fun h6 => ?_) (fun h6 => ?_)
        · have gz : getV s a 1 = 0 := by simpa using h6
          rw [if_pos gz] at h1
          subst h1
          (conv => whnf)
          have wa : IntKind.i64.wrap (a + 1) = a + 1 := wr (by omega) (by omega)
          refine tst (fun h7 => ?_) (fun h7 => ?_) <;> (conv => whnf)
          · have g7 : n = -1 := by simpa using h7
            refine obl ?_ ?_
            · simp [bytesCells_length, all_bytesCells]; simp only [List.length_cons] at h3; omega
            (conv => whnf)
            refine obl ?_ ?_
            · simp only [decide_eq_true_eq]
              show (cellsBytes (bytesCells (c :: acc))).length + 1 ≤ i64max
              rw [cb_bytesCells]; unfold i64max; omega
            (conv => whnf)
            refine hx _ _ _ (by intro e; cases e) ?_
            (conv => whnf)
            (refine ⟨_, _, rfl, ?_, ⟨_, _, rfl, ?_, ⟨_, _, rfl, ?_, rfl⟩⟩⟩) <;> (conv => whnf)
            · show cellsBytes (bytesCells (c :: acc)) ++ [0] = _
              rw [cb_bytesCells]
            · refine ⟨rfl, ?_⟩
              show IntKind.i64.wrap (a + 1) = _
              simp [g7, wa]
            · exact ⟨rfl, rfl⟩
          · have g7 : n ≠ -1 := by simpa using h7
            refine obl ?_ ?_
            · simp [bytesCells_length, all_bytesCells]; simp only [List.length_cons] at h3; omega
            (conv => whnf)
            refine obl ?_ ?_
            · simp only [decide_eq_true_eq]
              show (cellsBytes (bytesCells (c :: acc))).length + 1 ≤ i64max
              rw [cb_bytesCells]; unfold i64max; omega
            (conv => whnf)
            refine hx _ _ _ (by intro e; cases e) ?_
            (conv => whnf)
            (refine ⟨_, _, rfl, ?_, ⟨_, _, rfl, ?_, ⟨_, _, rfl, ?_, rfl⟩⟩⟩) <;> (conv => whnf)
            · show cellsBytes (bytesCells (c :: acc)) ++ [0] = _
              rw [cb_bytesCells]
            · refine ⟨rfl, ?_⟩
              show n = _
              simp [g7]
            · exact ⟨rfl, rfl⟩
        have gz : getV s a 1 ≠ 0 := by simpa using h6
        rw [if_neg gz] at h1
        (conv => whnf)
        refine tst (fun h7 => ?_) (fun h7 => ?_)
        · have gp : 192 ≤ getV s a 1 := by simpa using h7
          rw [if_pos gp] at h1
          (conv => whnf)
          refine obl (by simpa using hs) ?_
          (conv => whnf)
          refine tst (fun h8 => ?_) (fun h8 => ?_)
          · have gc : getB s a 2 = false := by simpa using h8
            rw [if_neg (by simp [gc])] at h1
            subst h1
            (conv => whnf)
            refine hn (.stop 2) _ _ ⟨rfl, by decide⟩ (Nat.succ_pos _) ⟨[], rfl, rfl, ⟨⟨rfl, trivial⟩, trivial⟩, trivial⟩
          have gc : getB s a 2 = true := by simpa using h8
          rw [if_pos gc] at h1
          have g21 := get21 gc
          have gu : getV s a 2 < 65536 := by simpa using getV_lt s a 2
          have wp : IntKind.i64.wrap (getV s a 2 - 49152) = getV s a 2 - 49152 := wr (by omega) (by omega)
          (conv => whnf)
          refine tst (fun h9 => ?_) (fun h9 => ?_)
          · have gl : l ≤ getV s a 2 - 49152 := by simpa [wp] using h9
            rw [if_pos gl] at h1
            subst h1
            (conv => whnf)
            refine hn (.stop 3) _ _ ⟨rfl, by decide⟩ (Nat.succ_pos _) ⟨[], rfl, rfl, ⟨⟨rfl, trivial⟩, trivial⟩, trivial⟩
          have gl : ¬ l ≤ getV s a 2 - 49152 := by simpa [wp] using h9
          rw [if_neg gl] at h1
          (conv => whnf)
          refine tst (fun h10 => ?_) (fun h10 => ?_) <;> (conv => whnf)
          · have g7 : n = -1 := by simpa using h10
            refine hn (.run k (getV s a 2 - 49152) (getV s a 2 - 49152) (a + 2) (c :: acc)) _ _ ⟨?_, ?_, h3, by omega⟩ (Nat.lt_succ_self _) ⟨[0, 1], rfl, rfl, ⟨⟨rfl, rfl⟩, ⟨rfl, trivial⟩, trivial⟩, ⟨⟨[.str s, .int .i64 (IntKind.i64.wrap (getV s a 2 - 49152)), .int .i64 (IntKind.i64.wrap (getV s a 2 - 49152)), .int .i64 (IntKind.i64.wrap (a + 2)), .ptr 0 4, .sl 1 1 0 (c :: acc).length], rfl, ?_⟩, ⟨_, rfl, RenL.solid _ (solid_bytesCells _)⟩, trivial⟩⟩
            · simpa [g7] using h1
            · omega
            · exact ren_reader wp wp (wr (by omega) (by omega)) rfl
          · have g7 : n ≠ -1 := by simpa using h10
            refine hn (.run k (getV s a 2 - 49152) (getV s a 2 - 49152) n (c :: acc)) _ _ ⟨?_, ?_, h3, by omega⟩ (Nat.lt_succ_self _) ⟨[0, 1], rfl, rfl, ⟨⟨rfl, rfl⟩, ⟨rfl, trivial⟩, trivial⟩, ⟨⟨[.str s, .int .i64 (IntKind.i64.wrap (getV s a 2 - 49152)), .int .i64 (IntKind.i64.wrap (getV s a 2 - 49152)), .int .i64 n, .ptr 0 4, .sl 1 1 0 (c :: acc).length], rfl, ?_⟩, ⟨_, rfl, RenL.solid _ (solid_bytesCells _)⟩, trivial⟩⟩
            · simpa [g7] using h1
            · omega
            · exact ren_reader wp wp rfl rfl
        have gp : ¬ 192 ≤ getV s a 1 := by simpa using h7
        rw [if_neg gp] at h1
        (conv => whnf)
        refine tst (fun h8 => ?_) (fun h8 => ?_)
        · have gm : 63 < getV s a 1 := by simpa using h8
          rw [if_pos gm] at h1
          subst h1
          (conv => whnf)
          refine hn (.stop 3) _ _ ⟨rfl, by decide⟩ (Nat.succ_pos _) ⟨[], rfl, rfl, ⟨⟨rfl, trivial⟩, trivial⟩, trivial⟩
        have gm : ¬ 63 < getV s a 1 := by simpa using h8
        rw [if_neg gm] at h1
        have gu : getV s a 1 < 256 := by simpa using getV_lt s a 1
        have gv := (getV_bound s a 1).1
        (conv => whnf)
        refine obl (by simpa using hs) ?_
        have wz : IntKind.i64.wrap (1 + getV s a 1) = 1 + getV s a 1 := wr (by omega) (by omega)
        rw [wz]
        (conv => whnf)
        refine tst (fun h9 => ?_) (fun h9 => ?_)
        · have gt : takeB s a (1 + getV s a 1) = false := by simpa using h9
          rw [if_neg (by simp [gt])] at h1
          subst h1
          (conv => whnf)
          refine hn (.stop 2) _ _ ⟨rfl, by decide⟩ (Nat.succ_pos _) ⟨[], rfl, rfl, ⟨⟨rfl, trivial⟩, trivial⟩, trivial⟩
        have gt : takeB s a (1 + getV s a 1) = true := by simpa using h9
        rw [if_pos gt] at h1
        have hl := takeS_len gt
        generalize hq : takeS s a (1 + getV s a 1) = q at *
        obtain ⟨x, q, rfl⟩ : ∃ x q', q = x :: q' := by
          cases q with
          | nil => simp at hl; omega
          | cons x q => exact ⟨x, q, rfl⟩
        (conv => whnf)
        have wl : IntKind.i64.wrap (((c :: acc).length : Int) + ((x :: q).length : Int)) = ((c :: acc).length : Int) + ((x :: q).length : Int) := wr (by omega) (by omega)
        refine tst (fun h10 => ?_) (fun h10 => ?_)
        · have gx : 255 ≤ ((c :: acc).length : Int) + (1 + getV s a 1) := by
            have : (255 : Int) ≤ IntKind.i64.wrap (((c :: acc).length : Int) + ((x :: q).length : Int)) := by simpa using h10
            rw [wl] at this
            skip
            omega
          rw [if_pos gx] at h1
          subst h1
          (conv => whnf)
          refine hn (.stop 3) _ _ ⟨rfl, by decide⟩ (Nat.succ_pos _) ⟨[], rfl, rfl, ⟨⟨rfl, trivial⟩, trivial⟩, trivial⟩
        have gx : ¬ 255 ≤ ((c :: acc).length : Int) + (1 + getV s a 1) := by
          have : ¬ (255 : Int) ≤ IntKind.i64.wrap (((c :: acc).length : Int) + ((x :: q).length : Int)) := by simpa using h10
          rw [wl] at this
          skip
          omega
        rw [if_neg gx] at h1
        (conv => whnf)
        have tk : List.take ((c :: acc).length * 1) (bytesCells (c :: acc)) = bytesCells (c :: acc) := by
          rw [Nat.mul_one]; exact List.take_of_length_le (by rw [bytesCells_length]; omega)
        refine obl ?_ ?_
        · show (true && Nat.beq 5 5 && Nat.beq 1 1 && Nat.beq 0 0 && ((c :: acc).length * 1).beq (List.take ((c :: acc).length * 1) (bytesCells (c :: acc))).length && roomy ((c :: acc).length + (x :: q).length) 1) = true
          rw [tk, bytesCells_length, Nat.mul_one]
          simp only [Nat.beq_eq, roomy, Nat.ble_eq, Bool.and_eq_true, Nat.mul_one, true_and, and_true]
          omega
        (conv => whnf)
        have wa : IntKind.i64.wrap (a + ((x :: q).length : Int)) = a + (1 + getV s a 1) := by rw [wr (by omega) (by omega)]; omega
        refine hn (.run k (a + (1 + getV s a 1)) l n (c :: acc ++ (x :: q))) _ _ ⟨by simpa using h1, ?_, ?_, h4⟩ (Nat.lt_succ_self _) ⟨[0, 2], rfl, rfl, ⟨⟨rfl, rfl⟩, ⟨rfl, trivial⟩, trivial⟩, ⟨⟨[.str s, .int .i64 (IntKind.i64.wrap (a + ((x :: q).length : Int))), .int .i64 l, .int .i64 n, .ptr 0 4, .sl 2 1 0 ((c :: acc).length + (x :: q).length)], rfl, ?_⟩, ⟨List.take ((c :: acc).length * 1) (bytesCells (c :: acc)) ++ bytesCells (x :: q), rfl, ?_⟩, trivial⟩⟩
        · simp only [List.length_append] at h2 ⊢; omega
        · simp only [List.length_append]; omega
        · exact ren_reader wa rfl rfl (by show _ = (c :: (acc ++ (x :: q))).length; simp only [List.length_cons, List.length_append]; omega)
        · rw [tk, show bytesCells (c :: acc) ++ bytesCells (x :: q) = bytesCells (c :: acc ++ (x :: q)) by simp [bytesCells]]
          exact RenL.solid _ (solid_bytesCells _)
    · obtain ⟨rfl, he⟩ := hI
      (conv => whnf)
      refine tst (fun h5 => ?_) (fun h5 => ?_) <;> (conv => whnf)
      · simp at h5; exact absurd h5 he
      · refine hx _ _ _ (by intro e; cases e) ?_
        (conv => whnf)
        (refine ⟨_, _, rfl, ?_, ⟨_, _, rfl, ?_, ⟨_, _, rfl, ?_, rfl⟩⟩⟩) <;> (conv => whnf)
        · exact ⟨rfl, rfl⟩
        · exact ⟨rfl, rfl⟩
  · cases hg
end Go.Abs.R
