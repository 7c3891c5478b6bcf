import Derived.Test.YtaifmmemfmapkaaGreatMods
namespace Go.Abs
/-- name.split: so many labels at most -/
def splitN : Nat → Bs → List Bs → List Bs × Bool
  | 0, _, _ => ([], false)
  | _ + 1, [], acc => (acc, false)
  | k + 1, c :: r, acc => if c :: r = [0] then (acc, true)
    else if c.toNat < 1 ∨ 63 < c.toNat ∨ (c :: r).length ≤ c.toNat + 1 then ([], false)
    else splitN k (r.drop c.toNat) (acc ++ [r.take c.toNat])
def splitV (n : Bs) : List Bs × Bool := if 255 < n.length then ([], false) else splitN (n.length + 1) n []
def nameB (n : Bs) : Bool := (splitV n).2
/-- data.Check -/
def dataB (k : Int) (d : Bs) : Bool := decide (d.length ≤ 65535) && (((expV d 0 d.length k).2 == 0) && ((expV d 0 d.length k).1 == d))
/-- record.Check -/
def rrB (r : Rr) : Bool := nameB r.name && (decide (0 ≤ r.kind) && decide (r.kind ≤ 65535)) && (decide (0 ≤ r.cls) && decide (r.cls ≤ 65535)) && (decide (0 ≤ r.ttl) && decide (r.ttl ≤ 2147483647)) && dataB r.kind r.data
def qnB (q : Qn) : Bool := nameB q.name && (decide (0 ≤ q.kind) && decide (q.kind ≤ 65535)) && (decide (0 ≤ q.cls) && decide (q.cls ≤ 65535))
end Go.Abs
namespace Go.Abs
/-- where the first stands of which p holds; -1: there is none -/
def idxP {α : Type} (p : α → Bool) : List α → Int
  | [] => -1
  | r :: l => if p r then 0 else if idxP p l < 0 then -1 else idxP p l + 1
theorem idxP_at {α : Type} (p : α → Bool) : ∀ (l : List α) (i : Nat) (h : i < l.length), (∀ j (hj : j < l.length), j < i → p (l[j]'hj) = false) → p (l[i]'h) = true → idxP p l = i
  | [], i, h, _, _ => by simp at h
  | r :: l, 0, h, _, hk => by simp only [List.getElem_cons_zero] at hk; simp [idxP, hk]
  | r :: l, i + 1, h, hj, hk => by
    have h0 := hj 0 (by simp) (by omega)
    simp only [List.getElem_cons_zero] at h0
    have := idxP_at p l i (by simpa using h) (fun j hj' hlt => by have := hj (j + 1) (by simpa using hj') (by omega); simpa using this) (by simpa using hk)
    simp only [idxP, h0, this]
    rw [if_neg (by simp), if_neg (by omega)]
    rfl
theorem idxP_none {α : Type} (p : α → Bool) : ∀ (l : List α), (∀ j (hj : j < l.length), p (l[j]'hj) = false) → idxP p l = -1
  | [], _ => rfl
  | r :: l, hj => by
    have h0 := hj 0 (by simp)
    simp only [List.getElem_cons_zero] at h0
    have := idxP_none p l (fun j hj' => by have := hj (j + 1) (by simpa using hj'); simpa using this)
    simp only [idxP, h0, this]; rfl
theorem idxP_neg {α : Type} (p : α → Bool) : ∀ (l : List α), (0 ≤ idxP p l) ↔ l.any p = true
  | [] => by simp [idxP]
  | r :: l => by
    have := idxP_neg p l
    simp only [idxP, List.any_cons, Bool.or_eq_true]
    cases h : p r with
    | true => simp
    | false =>
      simp only [Bool.false_eq_true, if_false, false_or]
      rw [← this]
      split <;> omega
/-- octet.Put of two bytes -/
def put2 (n : Int) : Bs := if 0 ≤ n ∧ n < 65536 then [UInt8.ofNat (n.toNat / 256), UInt8.ofNat n.toNat] else []
end Go.Abs
