import GoSem.Step
import Derived.Calls
set_option linter.unusedVariables false
namespace Go.Abs
/-! What the program's functions compute, as Lean functions. -/
theorem wr {x : Int} (h1 : -9223372036854775808 ≤ x) (h2 : x < 9223372036854775808) : IntKind.i64.wrap x = x := by
  unfold IntKind.wrap
  show (if (true && decide (x % 18446744073709551616 ≥ 9223372036854775808)) = true then x % 18446744073709551616 - 18446744073709551616 else x % 18446744073709551616) = x
  simp only [Bool.true_and, decide_eq_true_eq]
  split <;> omega
theorem lor_add (m c i : Nat) (h : c < 2 ^ i) : (m * 2 ^ i) ||| c = m * 2 ^ i + c := by
  have := Nat.shiftLeft_add_eq_or_of_lt h m
  rw [Nat.shiftLeft_eq] at this
  exact this.symm
theorem or8 {n c : Int} (h0 : 0 ≤ n) (h1 : n < 4294967296) (h2 : 0 ≤ c) (h3 : c < 256) : IntKind.i64.wrap ((BitVec.ofInt 64 (n * 256) ||| BitVec.ofInt 64 c).toNat) = n * 256 + c := by
  obtain ⟨m, rfl⟩ := Int.eq_ofNat_of_zero_le h0
  obtain ⟨d, rfl⟩ := Int.eq_ofNat_of_zero_le h2
  have e : (BitVec.ofInt 64 ((m : Int) * 256) ||| BitVec.ofInt 64 (d : Int)).toNat = m * 256 + d := by
    rw [BitVec.toNat_or]
    have e1 : (BitVec.ofInt 64 ((m : Int) * 256)).toNat = m * 2 ^ 8 := by
      have e3 : (m : Int) * 256 = ((m * 256 : Nat) : Int) := (Int.natCast_mul m 256).symm
      rw [e3, BitVec.ofInt_natCast, BitVec.toNat_ofNat]
      omega
    have e2 : (BitVec.ofInt 64 (d : Int)).toNat = d := by
      rw [BitVec.ofInt_natCast, BitVec.toNat_ofNat]
      omega
    rw [e1, e2, lor_add m d 8 (by omega)]
  rw [e, wr (by omega) (by omega)]
  exact Int.natCast_add _ _

abbrev Bs := List UInt8
/-- octet.sized -/
def sizedV (n : Int) : Bool := decide (1 ≤ n) && decide (n ≤ 4)
/-- octet.Take: is there such a part; which -/
def takeB (s : Bs) (a n : Int) : Bool := decide (0 ≤ a) && decide (0 ≤ n) && decide (a + n ≤ s.length)
def takeS (s : Bs) (a n : Int) : Bs := if takeB s a n then (s.drop a.toNat).take n.toNat else []
/-- A number's bytes, the greatest first. -/
def beV (b : Bs) : Int := b.foldl (fun n c => n * 256 + (c.toNat : Int)) 0
/-- octet.Get -/
def getB (s : Bs) (a n : Int) : Bool := takeB s a n && sizedV n
def getV (s : Bs) (a n : Int) : Int := if getB s a n then beV (takeS s a n) else 0

theorem takeS_len {s : Bs} {a n : Int} (h : takeB s a n = true) : ((takeS s a n).length : Int) = n := by
  unfold takeS
  rw [if_pos h]
  unfold takeB at h
  simp only [Bool.and_eq_true, decide_eq_true_eq] at h
  simp only [List.length_take, List.length_drop]
  omega
theorem beV_bound : ∀ (b : Bs), 0 ≤ beV b ∧ beV b < 256 ^ b.length := by
  have key : ∀ (b : Bs) (n : Int) (k : Nat), 0 ≤ n → n < 256 ^ k → 0 ≤ b.foldl (fun n c => n * 256 + (c.toNat : Int)) n ∧ b.foldl (fun n c => n * 256 + (c.toNat : Int)) n < 256 ^ (k + b.length) := by
    intro b
    induction b with
    | nil => intro n k h1 h2; exact ⟨h1, by simpa using h2⟩
    | cons c b ih =>
      intro n k h1 h2
      have hc := c.toNat_lt
      have hp : (256 : Int) ^ (k + 1) = 256 ^ k * 256 := by rw [Int.pow_succ]
      have := ih (n * 256 + (c.toNat : Int)) (k + 1) (by omega) (by rw [hp]; omega)
      simpa [Nat.add_assoc, Nat.add_comm 1] using this
  intro b
  have := key b 0 0 (by omega) (by simp)
  simpa [beV] using this
theorem getV_bound (s : Bs) (a n : Int) : 0 ≤ getV s a n ∧ getV s a n < 4294967296 := by
  unfold getV
  split
  · rename_i h
    unfold getB at h
    simp only [Bool.and_eq_true] at h
    obtain ⟨h1, h2⟩ := h
    have hl := takeS_len h1
    unfold sizedV at h2
    simp only [Bool.and_eq_true, decide_eq_true_eq] at h2
    have hb := beV_bound (takeS s a n)
    refine ⟨hb.1, Int.lt_of_lt_of_le hb.2 ?_⟩
    have : (takeS s a n).length ≤ 4 := by omega
    have h3 : 256 ^ (takeS s a n).length ≤ 256 ^ 4 := Nat.pow_le_pow_right (n := 256) (by omega) this
    have h4 : ((256 ^ (takeS s a n).length : Nat) : Int) ≤ ((256 ^ 4 : Nat) : Int) := Int.ofNat_le.2 h3
    rw [Int.natCast_pow] at h4
    exact h4
  · exact ⟨Int.le_refl _, by decide⟩
/-- The bound that goes with the size. -/
theorem getV_lt (s : Bs) (a : Int) (n : Nat) : getV s a n < 256 ^ n := by
  unfold getV
  split
  · rename_i h
    unfold getB at h
    simp only [Bool.and_eq_true] at h
    have hl := takeS_len h.1
    have hb := beV_bound (takeS s a n)
    rw [show (takeS s a n).length = n by omega] at hb
    exact hb.2
  · exact Int.pow_pos (by omega)
end Go.Abs

namespace Go.Abs
/-- comp.Read: so many steps at most, at a place, pointers lead ahead of 'least'; the place behind (-1: not known yet), the labels. -/
def rdN (s : Bs) : Nat → Int → Int → Int → Bs → Bs × Int × Int
  | 0, _, _, _, _ => ([], 0, 3)
  | k + 1, a, least, next, acc =>
    if getB s a 1 then
      if getV s a 1 = 0 then (acc ++ [0], if next = -1 then a + 1 else next, 0)
      else if 192 ≤ getV s a 1 then
        if getB s a 2 then
          if least ≤ getV s a 2 - 49152 then ([], 0, 3)
          else rdN s k (getV s a 2 - 49152) (getV s a 2 - 49152) (if next = -1 then a + 2 else next) acc
        else ([], 0, 2)
      else if 63 < getV s a 1 then ([], 0, 3)
      else if takeB s a (1 + getV s a 1) then
        if 255 ≤ (acc.length : Int) + (1 + getV s a 1) then ([], 0, 3)
        else rdN s k (a + (1 + getV s a 1)) least next (acc ++ takeS s a (1 + getV s a 1))
      else ([], 0, 2)
    else ([], 0, 2)
def rdV (s : Bs) (a : Int) : Bs × Int × Int := rdN s (a.toNat * 256 + 256) a a (-1) []

theorem getB_iff {s : Bs} {a n : Int} : getB s a n = true ↔ 0 ≤ a ∧ 1 ≤ n ∧ n ≤ 4 ∧ a + n ≤ s.length := by
  simp only [getB, takeB, sizedV, Bool.and_eq_true, decide_eq_true_eq]
  omega
theorem takeB_iff {s : Bs} {a n : Int} : takeB s a n = true ↔ 0 ≤ a ∧ 0 ≤ n ∧ a + n ≤ s.length := by
  simp only [takeB, Bool.and_eq_true, decide_eq_true_eq]
  omega
theorem getV_eq {s : Bs} {a n : Int} (h : getB s a n = true) : getV s a n = beV ((s.drop a.toNat).take n.toNat) := by
  have h' : takeB s a n = true := by unfold getB at h; simp only [Bool.and_eq_true] at h; exact h.1
  unfold getV takeS
  rw [if_pos h, if_pos h']
theorem get21 {s : Bs} {a : Int} (h : getB s a 2 = true) : getV s a 1 * 256 ≤ getV s a 2 := by
  have h2 := getB_iff.1 h
  have h1 : getB s a 1 = true := getB_iff.2 (by omega)
  rw [getV_eq h, getV_eq h1]
  have hl : 2 ≤ (s.drop a.toNat).length := by rw [List.length_drop]; omega
  match hd : s.drop a.toNat, hl with
  | x :: y :: r, _ =>
    have := y.toNat_lt
    simp [beV]; omega
  | [], hl => simp at hl
  | [_], hl => simp at hl
theorem rdN_next : ∀ (k : Nat) (s : Bs) (a l n : Int) (acc : Bs), (n = -1 ∨ (0 ≤ n ∧ n ≤ s.length)) → (rdN s k a l n acc).2.2 = 0 → 0 ≤ (rdN s k a l n acc).2.1 ∧ (rdN s k a l n acc).2.1 ≤ s.length
  | 0, s, a, l, n, acc, _, h => by simp [rdN] at h
  | k + 1, s, a, l, n, acc, hn, h => by
    unfold rdN at h ⊢
    split at h
    · rename_i h1
      have g1 := getB_iff.1 h1
      rw [if_pos h1]
      split at h
      · rename_i h2
        rw [if_pos h2]
        simp only
        split <;> omega
      · rename_i h2
        rw [if_neg h2]
        split at h
        · rename_i h3
          rw [if_pos h3]
          split at h
          · rename_i h4
            have g2 := getB_iff.1 h4
            rw [if_pos h4]
            split at h
            · simp at h
            · rename_i h5
              rw [if_neg h5]
              exact rdN_next k s _ _ _ _ (by split <;> omega) h
          · simp at h
        · rename_i h3
          rw [if_neg h3]
          split at h
          · simp at h
          · rename_i h4
            rw [if_neg h4]
            split at h
            · rename_i h5
              rw [if_pos h5]
              split at h
              · simp at h
              · rename_i h6
                rw [if_neg h6]
                exact rdN_next k s _ _ _ _ hn h
            · simp at h
    · simp at h
theorem rdV_next {s : Bs} {a : Int} (h : (rdV s a).2.2 = 0) : 0 ≤ (rdV s a).2.1 ∧ (rdV s a).2.1 ≤ s.length := rdN_next _ s a a (-1) [] (.inl rfl) h
theorem rdN_len : ∀ (k : Nat) (s : Bs) (a l n : Int) (acc : Bs), acc.length < 255 → (rdN s k a l n acc).1.length ≤ 255
  | 0, s, a, l, n, acc, _ => by simp [rdN]
  | k + 1, s, a, l, n, acc, hl => by
    unfold rdN
    split
    · split
      · simp only [List.length_append, List.length_cons, List.length_nil]; omega
      · split
        · split
          · split
            · simp
            · exact rdN_len k s _ _ _ _ hl
          · simp
        · split
          · simp
          · split
            · rename_i h5
              split
              · simp
              · have := takeS_len h5
                exact rdN_len k s _ _ _ _ (by simp only [List.length_append]; omega)
            · simp
    · simp
theorem rdV_len (s : Bs) (a : Int) : (rdV s a).1.length ≤ 255 := rdN_len _ s a a (-1) [] (by simp)
end Go.Abs

namespace Go.Abs
/-- data.shapes: how many bytes ahead, how many names, how many bytes behind; is there one? -/
def shA (k : Int) : Int := if k = 1 then 4 else if k = 28 then 16 else if k = 15 then 2 else if k = 33 then 6 else 0
def shN (k : Int) : Int := if k = 2 then 1 else if k = 5 then 1 else if k = 12 then 1 else if k = 6 then 2 else if k = 15 then 1 else if k = 33 then 1 else 0
def shZ (k : Int) : Int := if k = 6 then 20 else 0
def shB (k : Int) : Bool := k == 1 || k == 28 || k == 2 || k == 5 || k == 12 || k == 6 || k == 15 || k == 33
theorem sh_bounds (k : Int) : 0 ≤ shA k ∧ shA k ≤ 16 ∧ 0 ≤ shN k ∧ shN k ≤ 2 ∧ 0 ≤ shZ k ∧ shZ k ≤ 20 := by
  unfold shA shN shZ
  refine ⟨?_, ?_, ?_, ?_, ?_, ?_⟩ <;> (repeat' split) <;> omega
/-- data.read's names: so many, each where the one ahead of it ends; none: one of them is none, or ends too late. -/
def rdNames (s : Bs) (e : Int) : Nat → Int → List Bs → Option (List Bs × Int)
  | 0, a, acc => some (acc, a)
  | k + 1, a, acc => if (rdV s a).2.2 ≠ 0 ∨ e < (rdV s a).2.1 then none else rdNames s e k (rdV s a).2.1 (acc ++ [(rdV s a).1])
/-- a part of a text -/
def cut (s : Bs) (a e : Int) : Bs := (s.drop a.toNat).take (e.toNat - a.toNat)
/-- data.read: what stands ahead, what stands behind, the names; has it the shape? -/
def readD (s : Bs) (a e A N Z : Int) : Bs × Bs × List Bs × Bool :=
  if A ≤ e - a then
    match rdNames s e N.toNat (a + A) [] with
    | none => ([], [], [], false)
    | some (l, b) => (cut s a (a + A), cut s b e, l, decide (((cut s b e).length : Int) = Z))
  else ([], [], [], false)
/-- data.texts -/
def textsN : Nat → Bs → Bool
  | 0, _ => false
  | _ + 1, [] => true
  | k + 1, c :: d => if 1 + c.toNat ≤ d.length + 1 then textsN k (d.drop c.toNat) else false
theorem textsN_fuel : ∀ (k j : Nat) (d : Bs), d.length < k → d.length < j → textsN k d = textsN j d
  | 0, _, d, h, _ => by omega
  | _, 0, d, _, h => by omega
  | k + 1, j + 1, [], _, _ => rfl
  | k + 1, j + 1, c :: d, h1, h2 => by
    simp only [List.length_cons] at h1 h2
    simp only [textsN]
    split
    · exact textsN_fuel k j _ (by simp; omega) (by simp; omega)
    · rfl
def textsV (d : Bs) : Bool := if d = [] then false else textsN (d.length + 1) d
theorem rdNames_len (s : Bs) (e : Int) : ∀ (k : Nat) (a : Int) (acc l : List Bs) (b : Int), rdNames s e k a acc = some (l, b) → (∀ n ∈ acc, n.length ≤ 255) → (∀ n ∈ l, n.length ≤ 255) ∧ l.length = acc.length + k
  | 0, a, acc, l, b, h, ha => by simp only [rdNames, Option.some.injEq, Prod.mk.injEq] at h; obtain ⟨rfl, rfl⟩ := h; exact ⟨ha, by omega⟩
  | k + 1, a, acc, l, b, h, ha => by
    simp only [rdNames] at h
    split at h
    · cases h
    · obtain ⟨h1, h2⟩ := rdNames_len s e k _ _ l b h (fun n hn => by
        simp only [List.mem_append, List.mem_singleton] at hn
        exact hn.elim (ha n) fun h => by rw [h]; exact rdV_len s a)
      exact ⟨h1, by rw [h2, List.length_append]; simp; omega⟩
theorem cut_len (s : Bs) (a e : Int) : (cut s a e).length ≤ s.length := by
  unfold cut; simp only [List.length_take, List.length_drop]; omega
theorem readD_len (s : Bs) (a e A N Z : Int) (hN : N ≤ 2) : (readD s a e A N Z).1.length ≤ s.length ∧ (readD s a e A N Z).2.1.length ≤ s.length ∧ (readD s a e A N Z).2.2.1.length ≤ 2 ∧ ∀ n ∈ (readD s a e A N Z).2.2.1, n.length ≤ 255 := by
  unfold readD
  split
  · split
    · simp
    · rename_i l b h
      obtain ⟨h1, h2⟩ := rdNames_len s e _ _ [] l b h (by simp)
      refine ⟨cut_len .., cut_len .., ?_, h1⟩
      simp only [List.length_nil] at h2
      simp only
      omega
  · simp
theorem sum_le {c : Nat} : ∀ (l : List Bs), (∀ n ∈ l, n.length ≤ c) → (l.map (·.length)).sum ≤ l.length * c
  | [], _ => by simp
  | x :: l, h => by
    have h1 := h x (by simp)
    have h2 := sum_le l fun n hn => h n (by simp [hn])
    simp only [List.map_cons, List.sum_cons, List.length_cons, Nat.add_mul, Nat.one_mul]
    omega
/-- data.Expand -/
def expV (s : Bs) (a n k : Int) : Bs × Int :=
  if takeB s a n then
    if shB k then
      let r := readD s a (a + n) (shA k) (shN k) (shZ k)
      let d := r.1 ++ r.2.2.1.flatten ++ r.2.1
      if r.2.2.2 = false ∨ (k = 16 ∧ textsV d = false) ∨ 65535 < d.length then ([], 4) else (d, 0)
    else
      let d := takeS s a n
      if (k = 16 ∧ textsV d = false) ∨ 65535 < d.length then ([], 4) else (d, 0)
  else ([], 2)
end Go.Abs

namespace Go.Abs
/-- msg.Head -/
def headI (s : Bs) : Int := if s.length < 12 then 0 else getV s 0 2
def headF (s : Bs) : Int := if s.length < 12 then 0 else getV s 2 2
def headB (s : Bs) : Bool := decide (12 ≤ s.length)
structure Qn where
  name : Bs
  kind : Int
  cls : Int
structure Rr where
  name : Bs
  kind : Int
  cls : Int
  ttl : Int
  data : Bs
/-- msg.question: what is read, where it ends, the code. -/
def qV (s : Bs) (a : Int) : Qn × Int × Int :=
  if (rdV s a).2.2 = 0 then
    if getB s ((rdV s a).2.1 + 2) 2 then (⟨(rdV s a).1, getV s (rdV s a).2.1 2, getV s ((rdV s a).2.1 + 2) 2⟩, (rdV s a).2.1 + 4, 0)
    else (⟨[], 0, 0⟩, 0, 2)
  else (⟨[], 0, 0⟩, 0, (rdV s a).2.2)
/-- record.Decode -/
def rrV (s : Bs) (a : Int) : Rr × Int × Int :=
  if (rdV s a).2.2 = 0 then
    let b := (rdV s a).2.1
    if getB s b 2 = true ∧ getB s (b + 2) 2 = true ∧ getB s (b + 4) 4 = true ∧ getB s (b + 8) 2 = true then
      let k := getV s b 2
      let n := getV s (b + 8) 2
      if (expV s (b + 10) n k).2 = 0 then
        (⟨(rdV s a).1, k, getV s (b + 2) 2, if 2147483647 < getV s (b + 4) 4 then 0 else getV s (b + 4) 4, (expV s (b + 10) n k).1⟩, b + 10 + n, 0)
      else (⟨[], 0, 0, 0, []⟩, 0, (expV s (b + 10) n k).2)
    else (⟨[], 0, 0, 0, []⟩, 0, 2)
  else (⟨[], 0, 0, 0, []⟩, 0, (rdV s a).2.2)
end Go.Abs
namespace Go.Abs
structure Mg where
  id : Int
  bits : Int
  qs : List Qn
  an : List Rr
  ns : List Rr
  ar : List Rr
/-- so many questions -/
def qsN (s : Bs) : Nat → Int → List Qn → Int ⊕ (List Qn × Int)
  | 0, a, acc => .inr (acc, a)
  | k + 1, a, acc => if (qV s a).2.2 = 0 then qsN s k (qV s a).2.1 (acc ++ [(qV s a).1]) else .inl (qV s a).2.2
/-- so many records -/
def rrN (s : Bs) : Nat → Int → List Rr → Int ⊕ (List Rr × Int)
  | 0, a, acc => .inr (acc, a)
  | k + 1, a, acc => if (rrV s a).2.2 = 0 then rrN s k (rrV s a).2.1 (acc ++ [(rrV s a).1]) else .inl (rrV s a).2.2
def cntV (s : Bs) (k : Int) : Nat := (getV s (4 + 2 * k) 2).toNat
def fin3 (s : Bs) (id bits : Int) (qs : List Qn) (an ns ar : List Rr) (a : Int) : Int ⊕ Mg := if a = s.length then .inr ⟨id, bits, qs, an, ns, ar⟩ else .inl 5
def fin2 (s : Bs) (id bits : Int) (qs : List Qn) (an ns : List Rr) (a : Int) : Int ⊕ Mg := match rrN s (cntV s 3) a [] with
  | .inl e => .inl e
  | .inr (ar, a) => fin3 s id bits qs an ns ar a
def fin1 (s : Bs) (id bits : Int) (qs : List Qn) (an : List Rr) (a : Int) : Int ⊕ Mg := match rrN s (cntV s 2) a [] with
  | .inl e => .inl e
  | .inr (ns, a) => fin2 s id bits qs an ns a
def fin0 (s : Bs) (id bits : Int) (qs : List Qn) (a : Int) : Int ⊕ Mg := match rrN s (cntV s 1) a [] with
  | .inl e => .inl e
  | .inr (an, a) => fin1 s id bits qs an a
/-- msg.Decode -/
def decV (s : Bs) : Int ⊕ Mg :=
  if 65535 < s.length then .inl 6
  else if headB s = false then .inl 2
  else match qsN s (cntV s 0) 12 [] with
    | .inl e => .inl e
    | .inr (qs, a) => fin0 s (headI s) (headF s) qs a
def decM (s : Bs) : Mg := match decV s with
  | .inl _ => ⟨0, 0, [], [], [], []⟩
  | .inr m => m
def decE (s : Bs) : Int := match decV s with
  | .inl e => e
  | .inr _ => 0
theorem qV_next {s : Bs} {a : Int} (h : (qV s a).2.2 = 0) : 0 ≤ (qV s a).2.1 ∧ (qV s a).2.1 ≤ s.length := by
  unfold qV at h ⊢
  split at h
  · rename_i h1
    rw [if_pos h1]
    split at h
    · rename_i h2
      rw [if_pos h2]
      have := getB_iff.1 h2
      have := rdV_next h1
      simp only; omega
    · simp at h
  · rename_i h1; exact absurd h h1
theorem expV_size {s : Bs} {a n k : Int} (h : (expV s a n k).2 = 0) : takeB s a n = true := by
  unfold expV at h
  split at h
  · rename_i h1; exact h1
  · simp at h
theorem rrV_next {s : Bs} {a : Int} (h : (rrV s a).2.2 = 0) : 0 ≤ (rrV s a).2.1 ∧ (rrV s a).2.1 ≤ s.length := by
  unfold rrV at h ⊢
  split at h
  · rename_i h1
    rw [if_pos h1]
    simp only at h ⊢
    split at h
    · rename_i h2
      rw [if_pos h2]
      split at h
      · rename_i h3
        rw [if_pos h3]
        have := takeB_iff.1 (expV_size h3)
        simp only; omega
      · rename_i h3; exact absurd h h3
    · simp at h
  · rename_i h1; exact absurd h h1
end Go.Abs

namespace Go.Abs
/-- where the first OPT stands; -1: there is none -/
def idxOpt : List Rr → Int
  | [] => -1
  | r :: l => if r.kind = 41 then 0 else if idxOpt l < 0 then -1 else idxOpt l + 1
theorem idxOpt_bound : ∀ l : List Rr, -1 ≤ idxOpt l ∧ idxOpt l < l.length
  | [] => by simp [idxOpt]
  | r :: l => by
    have := idxOpt_bound l
    simp only [idxOpt, List.length_cons]
    split
    · omega
    · split <;> omega
structure Op where
  has : Bool
  size : Int
  ext : Int
  vers : Int
  dO : Bool
def extV (t : Int) : Int := t.fdiv (2 ^ (min (Int.toNat 24) IntKind.i64.bits))
def versV (t : Int) : Int := IntKind.i64.wrap ((BitVec.ofInt IntKind.i64.bits (t.fdiv (2 ^ (min (Int.toNat 16) IntKind.i64.bits))) &&& BitVec.ofInt IntKind.i64.bits 255).toNat)
def doV (t : Int) : Bool := IntKind.i64.wrap ((BitVec.ofInt IntKind.i64.bits t &&& BitVec.ofInt IntKind.i64.bits 32768).toNat) != 0
/-- edns.Find -/
def findV (m : Mg) : Op × Int :=
  if 0 ≤ idxOpt m.an ∨ 0 ≤ idxOpt m.ns then (⟨false, 0, 0, 0, false⟩, 7)
  else if idxOpt m.ar < 0 then (⟨false, 0, 0, 0, false⟩, 0)
  else
    let r := (m.ar.drop (idxOpt m.ar).toNat).headD ⟨[], 0, 0, 0, []⟩
    if 0 ≤ idxOpt (m.ar.drop ((idxOpt m.ar).toNat + 1)) ∨ r.name ≠ [0] ∨ ¬ (0 ≤ r.cls ∧ r.cls ≤ 65535) ∨ ¬ (0 ≤ r.ttl ∧ r.ttl ≤ 4294967295) then (⟨false, 0, 0, 0, false⟩, 7)
    else (⟨true, r.cls, extV r.ttl, versV r.ttl, doV r.ttl⟩, 0)
/-- flag.Of -/
def mayV (f bits : Int) : Bool := decide (0 ≤ bits) && decide (bits ≤ 65535) && decide (0 ≤ f) && decide (f < 9)
end Go.Abs
namespace Go.Abs
/-- reply.asked -/
def askV (s : Bs) : Qn × Op × Bool :=
  match (decM s).qs with
  | [q] => if decE s = 0 ∧ (findV (decM s)).2 = 0 then (q, (findV (decM s)).1, true) else (⟨[], 0, 0⟩, ⟨false, 0, 0, 0, false⟩, false)
  | _ => (⟨[], 0, 0⟩, ⟨false, 0, 0, 0, false⟩, false)
theorem rrN_len (s : Bs) : ∀ (k : Nat) (a : Int) (acc l : List Rr) (b : Int), rrN s k a acc = .inr (l, b) → l.length = acc.length + k
  | 0, a, acc, l, b, h => by simp only [rrN, Sum.inr.injEq, Prod.mk.injEq] at h; obtain ⟨rfl, rfl⟩ := h; omega
  | k + 1, a, acc, l, b, h => by
    simp only [rrN] at h
    split at h
    · have := rrN_len s k _ _ l b h
      rw [this, List.length_append]; simp; omega
    · cases h
theorem cntV_bd (s : Bs) (k : Int) : cntV s k ≤ 65535 := by
  have h : getV s (4 + 2 * k) 2 < 65536 := by simpa using getV_lt s (4 + 2 * k) 2
  have := (getV_bound s (4 + 2 * k) 2).1
  unfold cntV; omega
theorem decM_len (s : Bs) : (decM s).an.length ≤ 65535 ∧ (decM s).ns.length ≤ 65535 ∧ (decM s).ar.length ≤ 65535 := by
  unfold decM
  split
  · simp
  · rename_i m h
    unfold decV at h
    split at h
    · cases h
    · split at h
      · cases h
      · split at h
        · cases h
        · unfold fin0 at h
          split at h
          · cases h
          · rename_i an b1 h1
            unfold fin1 at h
            split at h
            · cases h
            · rename_i ns b2 h2
              unfold fin2 at h
              split at h
              · cases h
              · rename_i ar b3 h3
                unfold fin3 at h
                split at h
                · cases h
                  have e1 := rrN_len _ _ _ _ _ _ h1
                  have e2 := rrN_len _ _ _ _ _ _ h2
                  have e3 := rrN_len _ _ _ _ _ _ h3
                  simp only [List.length_nil, Nat.zero_add] at e1 e2 e3
                  exact ⟨by simp only [e1]; exact cntV_bd s 1, by simp only [e2]; exact cntV_bd s 2, by simp only [e3]; exact cntV_bd s 3⟩
                · cases h
structure Ak where
  id : Int
  bits : Int
  q : Qn
  o : Op
end Go.Abs
