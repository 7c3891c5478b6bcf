import Derived.Test.YtaifmmemfmapkaaGreatSh
import Derived.Test.YtaifmmemfmapkaaGreatAbsFd
import Derived.Test.YtaifmmemfmapkaaGreatLive
namespace Go.Abs.R
open Go.Abs Go.Proofs Go.RowKit
set_option maxRecDepth 100000
set_option linter.unusedVariables false
set_option linter.unusedSimpArgs false
/-- the live answers -/
def g9 : List AV → Option (Bool × AV)
  | [] => some (true, .bool true)
  | _ => none
theorem E1_ok : EnvOk Tryz.prog E1 := runF_ok (envOk_of tab_ok fns_ok noR_ok (fun _ _ _ h => by cases h) bldC_ok (by decide +kernel)) q0 2000 30
theorem p9 : PureOk Tryz.prog 9 g9 := by
  intro args v hg
  unfold g9 at hg
  split at hg
  · simp only [Option.some.injEq, Prod.mk.injEq, true_and] at hg
    subst hg
    exact runP_ok E1_ok 2000 0 9 [] (.bool true) live17
  · cases hg
def T15 : Tbl := [(11, g11), (9, g9)]
set_option maxHeartbeats 8000000 in
theorem law4 (s : Bs) : awqFn (EY T15) (inl (EY T15) 9) Tryz.f4 [.str s] [] fun v h => v = .bool true := by
  (conv => whnf)
  refine tst (fun h1 => ?_) (fun h1 => ?_)
  · (conv => whnf)
    rfl
  have hl : s.length ≤ 70000 := by simp only [decide_eq_false_iff_not] at h1; omega
  (conv => whnf)
  refine obl (decide_eq_true (by omega)) ?_
  have hk := readV_kinds s
  generalize readV s = r at *
  obtain ⟨⟨id, bits, ⟨nm, k, c⟩, ⟨oh, os, oe, ov, od⟩⟩, kind, code⟩ := r
  simp only at hk ⊢
  rcases hk with ⟨rfl, rfl, k1, k2, k3, rfl, rfl, k4⟩ | ⟨rfl, k1⟩ | ⟨rfl, k1, rfl⟩
  · (conv => whnf)
    refine tst (fun h2 => ?_) (fun h2 => absurd h2 (by simp; omega))
    (conv => whnf)
    refine tst (fun h3 => ?_) (fun h3 => absurd h3 (by simpa using k2))
    (conv => whnf)
    rcases k3 with k3 | k3
    · refine tst (fun h4 => ?_) (fun h4 => absurd h4 (by simp; omega))
      (conv => whnf)
      refine tst (fun h5 => ?_) (fun h5 => absurd h5 (by simpa using k4))
      (conv => whnf)
      rfl
    · refine tst (fun h4 => absurd h4 (by simp; omega)) (fun h4 => ?_)
      (conv => whnf)
      refine tst (fun h5 => ?_) (fun h5 => absurd h5 (by simp; omega))
      (conv => whnf)
      refine tst (fun h6 => ?_) (fun h6 => absurd h6 (by simpa using k4))
      (conv => whnf)
      rfl
  · rcases k1 with rfl | rfl | rfl | rfl
    · (conv => whnf)
      rfl
    · (conv => whnf)
      rfl
    · (conv => whnf)
      rfl
    · (conv => whnf)
      rfl
  · unfold zA at k1
    cases k1
    (conv => whnf)
    rfl
end Go.Abs.R

namespace Go.Abs.R
open Go.Abs Go.Proofs Go.RowKit
theorem ok0 {T : Tbl} (h : T = []) : ∀ p ∈ T, PureOk Tryz.prog p.1 p.2 := by subst h; intro p hp; cases hp
theorem okC {f : FuncId} {g : List AV → Option (Bool × AV)} {T : Tbl} (h : PureOk Tryz.prog f g) (k : ∀ p ∈ T, PureOk Tryz.prog p.1 p.2) : ∀ p ∈ (f, g) :: T, PureOk Tryz.prog p.1 p.2 := by
  intro p hp
  simp only [List.mem_cons] at hp
  rcases hp with rfl | hp
  · exact h
  · exact k p hp
theorem okN : ∀ p ∈ ([] : Tbl), PureOk Tryz.prog p.1 p.2 := fun p hp => by cases hp
theorem p95 : PureOk Tryz.prog 95 g95 := s95.ok (EW_ok okN) Tryz.func95 ok95
theorem p94 : PureOk Tryz.prog 94 g94 := s94.ok (EW_ok okN) Tryz.func94 ok94
theorem p60 : PureOk Tryz.prog 60 g60 := s60.ok (EW_ok (okC p94 (okC p95 okN))) Tryz.func60 ok60
theorem p123 : PureOk Tryz.prog 123 g123 := s123.ok (EX_ok (okC p60 (okC p94 (okC p95 okN)))) Tryz.func123 ok123
theorem k4 : ∀ p ∈ T4, PureOk Tryz.prog p.1 p.2 := okC p123 (okC p60 (okC p94 (okC p95 okN)))
theorem p153 : PureOk Tryz.prog 153 g153 := s153.ok (EY_ok k4) Tryz.func153 ok153
theorem k5 : ∀ p ∈ T5, PureOk Tryz.prog p.1 p.2 := okC p153 k4
theorem p145 : PureOk Tryz.prog 145 g145 := s145.ok (EY_ok k5) Tryz.func145 ok145
theorem p146 : PureOk Tryz.prog 146 g146 := s146.ok (EY_ok k5) Tryz.func146 ok146
theorem p147 : PureOk Tryz.prog 147 g147 := s147.ok (EY_ok k5) Tryz.func147 ok147
theorem p125 : PureOk Tryz.prog 125 g125 := s125.ok (EY_ok (okC p147 (okC p146 (okC p145 k5)))) Tryz.func125 ok125
theorem k8 : ∀ p ∈ T8, PureOk Tryz.prog p.1 p.2 := okC p125 k4
theorem p31 : PureOk Tryz.prog 31 g31 := s31.ok (EY_ok k8) Tryz.func31 ok31
theorem p96 : PureOk Tryz.prog 96 g96 := s96.ok (EY_ok k8) Tryz.func96 ok96
theorem p97 : PureOk Tryz.prog 97 g97 := s97.ok (EY_ok k8) Tryz.func97 ok97
theorem p98 : PureOk Tryz.prog 98 g98 := s98.ok (EY_ok k8) Tryz.func98 ok98
theorem p64 : PureOk Tryz.prog 64 g64 := s64.ok (EY_ok (okC p98 (okC p97 (okC p96 (okC p31 k8))))) Tryz.func64 ok64
theorem k10 : ∀ p ∈ T10, PureOk Tryz.prog p.1 p.2 := okC p64 (okC p31 (okC p60 okN))
theorem p102 : PureOk Tryz.prog 102 g102 := s102.ok (EY_ok k10) Tryz.func102 ok102
theorem p100 : PureOk Tryz.prog 100 g100 := s100.ok (EY_ok k10) Tryz.func100 ok100
theorem k10b : ∀ p ∈ T10b, PureOk Tryz.prog p.1 p.2 := okC p100 (okC p102 okN)
theorem p99 : PureOk Tryz.prog 99 g99 := s99.ok (EY_ok k10b) Tryz.func99 ok99
theorem p101 : PureOk Tryz.prog 101 g101 := s101.ok (EY_ok (okC p99 k10b)) Tryz.func101 ok101
theorem p65 : PureOk Tryz.prog 65 g65 := s65.ok (EY_ok (okC p101 (okC p99 k10b))) Tryz.func65 ok65
theorem p61 : PureOk Tryz.prog 61 g61 := s61.ok (EY_ok okN) Tryz.func61 ok61
theorem p63 : PureOk Tryz.prog 63 g63 := s63.ok (EY_ok okN) Tryz.func63 ok63
theorem p32 : PureOk Tryz.prog 32 g32 := s32.ok (EY_ok (okC p61 (okC p63 okN))) Tryz.func32 ok32
theorem p33 : PureOk Tryz.prog 33 g33 := s33.ok (EY_ok (okC p65 (okC p64 okN))) Tryz.func33 ok33
theorem p11 : PureOk Tryz.prog 11 g11 := s11.ok (EY_ok (okC p33 (okC p32 (okC p31 okN)))) Tryz.func11 ok11
theorem k15 : ∀ p ∈ T15, PureOk Tryz.prog p.1 p.2 := okC p11 (okC p9 okN)
end Go.Abs.R
