import Derived.Test.YtaifmmemfmapkaaGreatTc
namespace Go.Abs.R
open Go.Abs Go.Proofs
set_option maxRecDepth 100000
set_option linter.unusedVariables false
set_option linter.unusedSimpArgs false
def T20 : Tbl := [(95, g95)]
def put4 (n : Int) : Bs := if 0 ≤ n ∧ n < 4294967296 then [UInt8.ofNat (n.toNat / 16777216), UInt8.ofNat (n.toNat / 65536), UInt8.ofNat (n.toNat / 256), UInt8.ofNat n.toNat] else []
/-- octet.Put -/
def g70 : List AV → Option (Bool × AV)
  | [.int .i64 n, .int .i64 2] => some (true, .str (put2 n))
  | [.int .i64 n, .int .i64 4] => some (true, .str (put4 n))
  | _ => none
def pb (m k : Nat) : AV := .int .u8 ((m / k % 256 : Nat) : Int)
def SPut (n : Int) (sz i : Nat) : List (Nat × AV) := [(23, .int .i64 sz), (24, .int .i64 i), (0, .int .i64 n), (1, .int .i64 sz), (5, .sl 0 1 0 sz)]
def HPut (m sz i : Nat) : Heap := [.cells false 5 ((List.range sz).map fun j => if j + i < sz then .int .u8 0 else pb m (256 ^ (sz - 1 - j)))]
theorem hb8 (m k : Nat) (p : Int) (hp : p = (k : Int)) : IntKind.u8.wrap (Int.fdiv m p) = ((m / k % 256 : Nat) : Int) := by
  subst hp
  rw [Int.fdiv_eq_ediv_of_nonneg _ (by omega)]
  show ((m : Int) / (k : Int)) % 256 = _
  push_cast; rfl
theorem of8 (n : Nat) : UInt8.ofNat (n % 256) = UInt8.ofNat n := by apply UInt8.toNat_inj.1; simp
theorem s70 : Spec (EY T20) Tryz.f70 g70 := by
  intro args v hg
  unfold g70 at hg
  split at hg
  · rename_i n
    simp only [Option.some.injEq, Prod.mk.injEq, true_and, decide_eq_true_eq, Bool.and_eq_true] at hg
    subst hg
    refine ⟨(by simp [Solids, Solid, Solidss]), ?_⟩
    (conv => whnf)
    refine tst (fun h1 => ?_) (fun h1 => ?_)
    · (conv => whnf)
      have : n < 0 := by simpa using h1
      unfold put2; rw [if_neg (by omega)]
    · (conv => whnf)
      have h1' : 0 ≤ n := by simpa using h1
      obtain ⟨m, rfl⟩ : ∃ m : Nat, n = m := ⟨n.toNat, by omega⟩
      have e : IntKind.i64.wrap (8 * 2) = 16 := by decide
      have e2 : (m : Int).fdiv (2 ^ min (16 : Int).toNat IntKind.i64.bits) = ((m / 65536 : Nat) : Int) := by
        show Int.fdiv _ ((65536 : Nat) : Int) = _
        rw [Int.fdiv_eq_ediv_of_nonneg _ (by omega)]; rfl
      refine tst (fun h2 => ?_) (fun h2 => ?_)
      · (conv => whnf)
        rw [e, e2] at h2
        have h2' : m / 65536 ≠ 0 := by
          intro h; simp [h] at h2
        unfold put2; rw [if_neg (by omega)]
      · (conv => whnf)
        rw [e, e2] at h2
        have h2' : m < 65536 := by
          have h3 : m / 65536 = 0 := by
            apply Classical.byContradiction; intro h3
            have : (((m / 65536 : Nat) : Int) != 0) = true := by simp only [bne_iff_ne]; omega
            have h4 : (((m / 65536 : Nat) : Int) != 0) = false := h2
            rw [this] at h4; cases h4
          omega
        refine loopq (X := Nat) (fun i => i ≤ 2) (SPut m 2) (HPut m 2) (fun i => 2 - i) ?_ 0 (by omega) ⟨[0], rfl, rfl, ⟨⟨rfl, trivial⟩, ⟨rfl, trivial⟩, ⟨rfl, trivial⟩, ⟨rfl, trivial⟩, ⟨rfl, rfl⟩, trivial⟩, ⟨⟨_, rfl, RenL.solid _ (solidsB_ok _ rfl)⟩, trivial⟩⟩
        intro i hi J hn hx
        match i, hi with
        | 0, _ =>
          (conv => whnf)
          refine hn 1 _ _ (by omega) (by omega) ⟨[0], rfl, rfl, ⟨⟨rfl, trivial⟩, ⟨rfl, trivial⟩, ⟨rfl, trivial⟩, ⟨rfl, trivial⟩, ⟨rfl, rfl⟩, trivial⟩, ⟨⟨_, rfl, renL_eq (solidsB_ok _ rfl) ?_⟩, trivial⟩⟩
          show [AV.int .u8 0, AV.int .u8 (IntKind.u8.wrap ((m : Int).fdiv 1))] = [AV.int .u8 0, AV.int .u8 ((m / 1 % 256 : Nat) : Int)]
          rw [hb8 m 1 1 rfl]
        | 1, _ =>
          (conv => whnf)
          refine hn 2 _ _ (by omega) (by omega) ⟨[0], rfl, rfl, ⟨⟨rfl, trivial⟩, ⟨rfl, trivial⟩, ⟨rfl, trivial⟩, ⟨rfl, trivial⟩, ⟨rfl, rfl⟩, trivial⟩, ⟨⟨_, rfl, renL_eq (solidsB_ok _ rfl) ?_⟩, trivial⟩⟩
          show [AV.int .u8 (IntKind.u8.wrap ((m : Int).fdiv 256)), AV.int .u8 ((m / 1 % 256 : Nat) : Int)] = [AV.int .u8 ((m / 256 % 256 : Nat) : Int), AV.int .u8 ((m / 1 % 256 : Nat) : Int)]
          rw [hb8 m 256 256 rfl]
        | 2, _ =>
          (conv => whnf)
          refine hx _ _ _ (by intro e; cases e) ?_
          (conv => whnf)
          show [UInt8.ofNat (Int.toNat ((m / 256 % 256 : Nat) : Int)), UInt8.ofNat (Int.toNat ((m / 1 % 256 : Nat) : Int))] = put2 m
          unfold put2
          rw [if_pos (by omega)]
          simp only [Int.toNat_natCast, of8, Nat.div_one]
  · rename_i n
    simp only [Option.some.injEq, Prod.mk.injEq, true_and, decide_eq_true_eq, Bool.and_eq_true] at hg
    subst hg
    refine ⟨(by simp [Solids, Solid, Solidss]), ?_⟩
    (conv => whnf)
    refine tst (fun h1 => ?_) (fun h1 => ?_)
    · (conv => whnf)
      have : n < 0 := by simpa using h1
      unfold put4; rw [if_neg (by omega)]
    · (conv => whnf)
      have h1' : 0 ≤ n := by simpa using h1
      obtain ⟨m, rfl⟩ : ∃ m : Nat, n = m := ⟨n.toNat, by omega⟩
      have e : IntKind.i64.wrap (8 * 4) = 32 := by decide
      have e2 : (m : Int).fdiv (2 ^ min (32 : Int).toNat IntKind.i64.bits) = ((m / 4294967296 : Nat) : Int) := by
        show Int.fdiv _ ((4294967296 : Nat) : Int) = _
        rw [Int.fdiv_eq_ediv_of_nonneg _ (by omega)]; rfl
      refine tst (fun h2 => ?_) (fun h2 => ?_)
      · (conv => whnf)
        rw [e, e2] at h2
        have h2' : m / 4294967296 ≠ 0 := by
          intro h; simp [h] at h2
        unfold put4; rw [if_neg (by omega)]
      · (conv => whnf)
        rw [e, e2] at h2
        have h2' : m < 4294967296 := by
          have h3 : m / 4294967296 = 0 := by
            apply Classical.byContradiction; intro h3
            have : (((m / 4294967296 : Nat) : Int) != 0) = true := by simp only [bne_iff_ne]; omega
            have h4 : (((m / 4294967296 : Nat) : Int) != 0) = false := h2
            rw [this] at h4; cases h4
          omega
        refine loopq (X := Nat) (fun i => i ≤ 4) (SPut m 4) (HPut m 4) (fun i => 4 - i) ?_ 0 (by omega) ⟨[0], rfl, rfl, ⟨⟨rfl, trivial⟩, ⟨rfl, trivial⟩, ⟨rfl, trivial⟩, ⟨rfl, trivial⟩, ⟨rfl, rfl⟩, trivial⟩, ⟨⟨_, rfl, RenL.solid _ (solidsB_ok _ rfl)⟩, trivial⟩⟩
        intro i hi J hn hx
        match i, hi with
        | 0, _ =>
          (conv => whnf)
          refine hn 1 _ _ (by omega) (by omega) ⟨[0], rfl, rfl, ⟨⟨rfl, trivial⟩, ⟨rfl, trivial⟩, ⟨rfl, trivial⟩, ⟨rfl, trivial⟩, ⟨rfl, rfl⟩, trivial⟩, ⟨⟨_, rfl, renL_eq (solidsB_ok _ rfl) ?_⟩, trivial⟩⟩
          show [AV.int .u8 0, AV.int .u8 0, AV.int .u8 0, AV.int .u8 (IntKind.u8.wrap ((m : Int).fdiv 1))] = [AV.int .u8 0, AV.int .u8 0, AV.int .u8 0, AV.int .u8 ((m / 1 % 256 : Nat) : Int)]
          rw [hb8 m 1 1 rfl]
        | 1, _ =>
          (conv => whnf)
          refine hn 2 _ _ (by omega) (by omega) ⟨[0], rfl, rfl, ⟨⟨rfl, trivial⟩, ⟨rfl, trivial⟩, ⟨rfl, trivial⟩, ⟨rfl, trivial⟩, ⟨rfl, rfl⟩, trivial⟩, ⟨⟨_, rfl, renL_eq (solidsB_ok _ rfl) ?_⟩, trivial⟩⟩
          show [AV.int .u8 0, AV.int .u8 0, AV.int .u8 (IntKind.u8.wrap ((m : Int).fdiv 256)), AV.int .u8 ((m / 1 % 256 : Nat) : Int)] = [AV.int .u8 0, AV.int .u8 0, AV.int .u8 ((m / 256 % 256 : Nat) : Int), AV.int .u8 ((m / 1 % 256 : Nat) : Int)]
          rw [hb8 m 256 256 rfl]
        | 2, _ =>
          (conv => whnf)
          refine hn 3 _ _ (by omega) (by omega) ⟨[0], rfl, rfl, ⟨⟨rfl, trivial⟩, ⟨rfl, trivial⟩, ⟨rfl, trivial⟩, ⟨rfl, trivial⟩, ⟨rfl, rfl⟩, trivial⟩, ⟨⟨_, rfl, renL_eq (solidsB_ok _ rfl) ?_⟩, trivial⟩⟩
          show [AV.int .u8 0, AV.int .u8 (IntKind.u8.wrap ((m : Int).fdiv 65536)), AV.int .u8 ((m / 256 % 256 : Nat) : Int), AV.int .u8 ((m / 1 % 256 : Nat) : Int)] = [AV.int .u8 0, AV.int .u8 ((m / 65536 % 256 : Nat) : Int), AV.int .u8 ((m / 256 % 256 : Nat) : Int), AV.int .u8 ((m / 1 % 256 : Nat) : Int)]
          rw [hb8 m 65536 65536 rfl]
        | 3, _ =>
          (conv => whnf)
          refine hn 4 _ _ (by omega) (by omega) ⟨[0], rfl, rfl, ⟨⟨rfl, trivial⟩, ⟨rfl, trivial⟩, ⟨rfl, trivial⟩, ⟨rfl, trivial⟩, ⟨rfl, rfl⟩, trivial⟩, ⟨⟨_, rfl, renL_eq (solidsB_ok _ rfl) ?_⟩, trivial⟩⟩
          show [AV.int .u8 (IntKind.u8.wrap ((m : Int).fdiv 16777216)), AV.int .u8 ((m / 65536 % 256 : Nat) : Int), AV.int .u8 ((m / 256 % 256 : Nat) : Int), AV.int .u8 ((m / 1 % 256 : Nat) : Int)] = [AV.int .u8 ((m / 16777216 % 256 : Nat) : Int), AV.int .u8 ((m / 65536 % 256 : Nat) : Int), AV.int .u8 ((m / 256 % 256 : Nat) : Int), AV.int .u8 ((m / 1 % 256 : Nat) : Int)]
          rw [hb8 m 16777216 16777216 rfl]
        | 4, _ =>
          (conv => whnf)
          refine hx _ _ _ (by intro e; cases e) ?_
          (conv => whnf)
          show [UInt8.ofNat (Int.toNat ((m / 16777216 % 256 : Nat) : Int)), UInt8.ofNat (Int.toNat ((m / 65536 % 256 : Nat) : Int)), UInt8.ofNat (Int.toNat ((m / 256 % 256 : Nat) : Int)), UInt8.ofNat (Int.toNat ((m / 1 % 256 : Nat) : Int))] = put4 m
          unfold put4
          rw [if_pos (by omega)]
          simp only [Int.toNat_natCast, of8, Nat.div_one]
  · cases hg
end Go.Abs.R

namespace Go.Abs.R
open Go.Abs Go.Proofs
set_option maxRecDepth 100000
set_option linter.unusedVariables false
set_option linter.unusedSimpArgs false
attribute [local irreducible] put2 put4
def T21 : Tbl := [(78, g78), (109, g109), (70, g70)]
/-- comp.Write of the root -/
def g112 : List AV → Option (Bool × AV)
  | [.str n, .int .i64 k, .str [0]] => some (true, .str (if nameB n = true ∧ 0 ≤ k ∧ k ≤ 16000 then [0] else []))
  | _ => none
theorem put2_len (n : Int) : (put2 n).length ≤ 2 := by unfold put2; split <;> simp
theorem put4_len (n : Int) : (put4 n).length ≤ 4 := by unfold put4; split <;> simp
theorem nameB_root : nameB [0] = true := by decide
theorem s112 : Spec (EY T21) Tryz.f112 g112 := by
  intro args v hg
  unfold g112 at hg
  split at hg
  · rename_i n k
    simp only [Option.some.injEq, Prod.mk.injEq, true_and, decide_eq_true_eq, Bool.and_eq_true] at hg
    subst hg
    refine ⟨(by simp [Solids, Solid, Solidss]), ?_⟩
    (conv => whnf)
    refine tst (fun h1 => ?_) (fun h1 => ?_)
    · (conv => whnf)
      have : nameB n = false := by simpa using h1
      rw [this]; rfl
    have h1' : nameB n = true := by simpa using h1
    (conv => whnf)
    refine tst (fun h2 => ?_) (fun h2 => ?_)
    · (conv => whnf)
      have : k < 0 := by simpa using h2
      rw [if_neg (by omega)]
    have h2' : 0 ≤ k := by simpa using h2
    (conv => whnf)
    refine tst (fun h3 => ?_) (fun h3 => ?_)
    · (conv => whnf)
      have : 16000 < k := by simpa using h3
      rw [if_neg (by omega)]
    have h3' : k ≤ 16000 := by simpa using h3
    (conv => whnf)
    refine loopq (X := Nat) (fun _ => True) (fun _ => [(8, .bool true), (7, .str [0]), (2, .str [0])]) (fun _ => []) (fun _ => 0) ?_ 0 trivial ⟨[], rfl, rfl, ⟨⟨rfl, trivial⟩, ⟨rfl, trivial⟩, ⟨rfl, trivial⟩, trivial⟩, trivial⟩
    intro i hi J hn hx
    (conv => whnf)
    refine hx _ _ _ (by intro e; cases e) ?_
    (conv => whnf)
    rw [if_pos ⟨h1', h2', h3'⟩]
  · cases hg
def T21b : Tbl := [(112, g112), (109, g109), (70, g70)]
/-- record.Encode at the root -/
def encR (q : Bs) (k : Int) (r : Rr) : Bs := if nameB q = true ∧ 0 ≤ k ∧ k ≤ 16000 ∧ rrB r = true then [0] ++ put2 r.kind ++ put2 r.cls ++ put4 r.ttl ++ put2 r.data.length ++ r.data else []
def g72 : List AV → Option (Bool × AV)
  | [.str q, .int .i64 k, .agg [.str [0], .int .i64 a, .int .i64 c, .int .i64 t, .str d]] => some (decide (d.length ≤ 1099511627776), .str (encR q k ⟨[0], a, c, t, d⟩))
  | _ => none
theorem s72 : Spec (EY T21b) Tryz.f72 g72 := by
  intro args v hg
  unfold g72 at hg
  split at hg
  · rename_i q k a c t d
    simp only [Option.some.injEq, Prod.mk.injEq, true_and, decide_eq_true_eq, Bool.and_eq_true] at hg
    obtain ⟨hd, rfl⟩ := hg
    refine ⟨(by simp [Solids, Solid, Solidss]), ?_⟩
    unfold encR
    (conv => whnf)
    by_cases hq : nameB q = true ∧ 0 ≤ k ∧ k ≤ 16000
    · rw [if_pos hq]
      (conv => whnf)
      refine obl (decide_eq_true hd) ?_
      (conv => whnf)
      refine tst (fun h2 => ?_) (fun h2 => ?_)
      · (conv => whnf)
        rw [if_neg (by intro h; simp [h.2.2.2] at h2)]
      · (conv => whnf)
        rw [if_pos ⟨hq.1, hq.2.1, hq.2.2, by simpa using h2⟩]
        have l1 := put2_len a
        have l2 := put2_len c
        have l3 := put4_len t
        have l4 := put2_len (d.length : Int)
        iterate 5
          refine obl (decide_eq_true (by simp only [List.length_append, List.length_cons, List.length_nil, i64max]; omega)) ?_
          (conv => whnf)
    · rw [if_neg hq]
      (conv => whnf)
      rw [if_neg (fun h => hq ⟨h.1, h.2.1, h.2.2.1⟩)]
  · cases hg
end Go.Abs.R
