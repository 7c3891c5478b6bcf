import Derived.Test.YtaifmmemfmapkaaGreatAbsE
set_option linter.unusedVariables false
set_option linter.unusedSimpArgs false
namespace Go.Abs
open Go.RowKit

/-! ### The machine run: every step as a value -/
def par (j : Nat) : Bool := Nat.beq (Nat.mod j 2) 0
def hlf (j : Nat) : Nat := Nat.div j 2
theorem par_hlf {j k : Nat} (hp : par k = par j) (hh : hlf k = hlf j) : k = j := by
  have e : ∀ n, par n = decide (n % 2 = 0) := fun n => by
    show Nat.beq (n % 2) 0 = _
    cases h : Nat.beq (n % 2) 0 with
    | true => simp only [Nat.beq_eq] at h; simp [h]
    | false => symm; rw [decide_eq_false_iff_not]; intro h2; rw [h2] at h; cases h
  have e2 : k / 2 = j / 2 := hh
  rw [e, e, decide_eq_decide] at hp
  omega
/-- The slots, as a tree. -/
inductive Tr where
  | nil
  | node (l : Tr) (v : AV) (r : Tr)
def Tr.get : Tr → Nat → AV
  | .nil, _ => .undef
  | .node l v r, i => match i with
    | 0 => v
    | j + 1 => cond (par j) (l.get (hlf j)) (r.get (hlf j))
theorem bne {a b : Nat} (h : a ≠ b) : Nat.beq a b = false := by
  cases hb : Nat.beq a b with
  | false => rfl
  | true => exact absurd (Nat.eq_of_beq_eq_true hb) h
theorem Tr.get_l {l l' r : Tr} {x v : AV} {j : Nat} (hj : par j = true) (h : l'.get = upd l.get (hlf j) v) : (Tr.node l' x r).get = upd (Tr.node l x r).get (j + 1) v := by
  funext k
  cases k with
  | zero => simp [Tr.get, upd, Nat.beq]
  | succ k =>
    simp only [Tr.get, h, upd]
    cases hk : par k with
    | false =>
      have : k ≠ j := fun e => by rw [e, hj] at hk; cases hk
      rw [bne (a := k + 1) (b := j + 1) (by omega)]
      rfl
    | true =>
      by_cases e : k = j
      · subst e; simp
      · rw [bne (a := k + 1) (b := j + 1) (by omega), bne (a := hlf k) (b := hlf j) fun e2 => e (par_hlf (by rw [hk, hj]) e2)]
        rfl
theorem Tr.get_r {l r r' : Tr} {x v : AV} {j : Nat} (hj : par j = false) (h : r'.get = upd r.get (hlf j) v) : (Tr.node l x r').get = upd (Tr.node l x r).get (j + 1) v := by
  funext k
  cases k with
  | zero => simp [Tr.get, upd, Nat.beq]
  | succ k =>
    simp only [Tr.get, h, upd]
    cases hk : par k with
    | true =>
      have : k ≠ j := fun e => by rw [e, hj] at hk; cases hk
      rw [bne (a := k + 1) (b := j + 1) (by omega)]
      rfl
    | false =>
      by_cases e : k = j
      · subst e; simp
      · rw [bne (a := k + 1) (b := j + 1) (by omega), bne (a := hlf k) (b := hlf j) fun e2 => e (par_hlf (by rw [hk, hj]) e2)]
        rfl
theorem Tr.get_0 {l r : Tr} {x v : AV} : (Tr.node l v r).get = upd (Tr.node l x r).get 0 v := by
  funext k
  cases k with
  | zero => simp [Tr.get, upd]
  | succ k => simp [Tr.get, upd, Nat.beq]
theorem Tr.get_nil : Tr.nil.get = (Tr.node .nil .undef .nil).get := by
  funext k
  cases k with
  | zero => rfl
  | succ k => simp [Tr.get]

section
variable {α : Type}
def setK : Nat → Tr → Nat → AV → (Tr → Option α) → Option α
  | 0, _, _, _, _ => none
  | f + 1, .nil, i, v, K => match i with
    | 0 => K (.node .nil v .nil)
    | j + 1 => cond (par j) (setK f .nil (hlf j) v fun l => K (.node l .undef .nil)) (setK f .nil (hlf j) v fun r => K (.node .nil .undef r))
  | f + 1, .node l x r, i, v, K => match i with
    | 0 => K (.node l v r)
    | j + 1 => cond (par j) (setK f l (hlf j) v fun l => K (.node l x r)) (setK f r (hlf j) v fun r => K (.node l x r))

theorem setK_ok : ∀ {f : Nat} {t : Tr} {i : Nat} {v : AV} {K : Tr → Option α} {r : α}, setK f t i v K = some r → ∃ t', K t' = some r ∧ t'.get = upd t.get i v
  | 0, _, _, _, _, _, h => by simp [setK] at h
  | f + 1, .nil, 0, v, K, r, h => ⟨_, h, by rw [Tr.get_nil]; exact Tr.get_0⟩
  | f + 1, .nil, j + 1, v, K, r, h => by
    simp only [setK] at h
    cases hb : par j with
    | true =>
      rw [hb] at h
      obtain ⟨t', k1, k2⟩ := setK_ok h
      exact ⟨_, k1, by rw [Tr.get_nil]; exact Tr.get_l hb k2⟩
    | false =>
      rw [hb] at h
      obtain ⟨t', k1, k2⟩ := setK_ok h
      exact ⟨_, k1, by rw [Tr.get_nil]; exact Tr.get_r hb k2⟩
  | f + 1, .node l x q, 0, v, K, r, h => ⟨_, h, Tr.get_0⟩
  | f + 1, .node l x q, j + 1, v, K, r, h => by
    simp only [setK] at h
    cases hb : par j with
    | true =>
      rw [hb] at h
      obtain ⟨t', k1, k2⟩ := setK_ok h
      exact ⟨_, k1, Tr.get_l hb k2⟩
    | false =>
      rw [hb] at h
      obtain ⟨t', k1, k2⟩ := setK_ok h
      exact ⟨_, k1, Tr.get_r hb k2⟩

/-! Values brought to their form. -/
def fNat (n : Nat) (K : Nat → Option α) : Option α := match n with
  | 0 => K 0
  | m + 1 => K (m + 1)
def fInt (n : Int) (K : Int → Option α) : Option α := match n with
  | .ofNat m => fNat m fun m => K (.ofNat m)
  | .negSucc m => fNat m fun m => K (.negSucc m)
def fByte (b : UInt8) (K : UInt8 → Option α) : Option α := fNat b.toNat fun n => K (UInt8.ofNat n)
def fStr : List UInt8 → (List UInt8 → Option α) → Option α
  | [], K => K []
  | a :: s, K => fByte a fun a => fStr s fun s => K (a :: s)
theorem fNat_eq (n : Nat) (K : Nat → Option α) : fNat n K = K n := by cases n <;> rfl
theorem fInt_eq (n : Int) (K : Int → Option α) : fInt n K = K n := by cases n <;> simp [fInt, fNat_eq]
theorem fStr_eq : ∀ (s : List UInt8) (K : List UInt8 → Option α), fStr s K = K s
  | [], _ => rfl
  | a :: s, K => by simp only [fStr, fByte, fNat_eq, UInt8.ofNat_toNat]; exact fStr_eq s _
mutual
def fV : AV → (AV → Option α) → Option α
  | .bool b, K => match b with | true => K (.bool true) | false => K (.bool false)
  | .int k n, K => match k with
    | .i64 => fInt n fun n => K (.int .i64 n)
    | .u8 => fInt n fun n => K (.int .u8 n)
    | k => fInt n fun n => K (.int k n)
  | .str s, K => fStr s fun s => K (.str s)
  | .nilp, K => K .nilp
  | .nilm, K => K .nilm
  | .nilf, K => K .nilf
  | .nili, K => K .nili
  | .ptr β o, K => fNat β fun β => fNat o fun o => K (.ptr β o)
  | .rp cs, K => fL cs fun cs => K (.rp cs)
  | .sl β sz o n, K => fNat β fun β => fNat sz fun sz => fNat o fun o => fNat n fun n => K (.sl β sz o n)
  | .row sz xs, K => fNat sz fun sz => fLL xs fun xs => K (.row sz xs)
  | .emp b, K => match b with | true => K (.emp true) | false => K (.emp false)
  | .map β, K => fNat β fun β => K (.map β)
  | .fn f a c, K => match f with
    | .func g => fNat g fun g => fL a fun a => fL c fun c => K (.fn (.func g) a c)
    | f => fL a fun a => fL c fun c => K (.fn f a c)
  | .ifc u v, K => fNat u fun u => fV v fun v => K (.ifc u v)
  | .agg cs, K => fL cs fun cs => K (.agg cs)
  | .tup vs, K => fL vs fun vs => K (.tup vs)
  | .any, K => K .any
def fL : List AV → (List AV → Option α) → Option α
  | [], K => K []
  | a :: as, K => fV a fun a => fL as fun as => K (a :: as)
def fLL : List (List AV) → (List (List AV) → Option α) → Option α
  | [], K => K []
  | a :: as, K => fL a fun a => fLL as fun as => K (a :: as)
end
mutual
theorem fV_eq : ∀ (v : AV) (K : AV → Option α), fV v K = K v
  | .bool b, K => by cases b <;> simp [fV]
  | .int k n, K => by cases k <;> simp [fV, fInt_eq]
  | .str s, K => by simp [fV, fStr_eq]
  | .nilp, K | .nilm, K | .nilf, K | .nili, K => by simp [fV]
  | .ptr β o, K => by simp [fV, fNat_eq]
  | .rp cs, K => by simp [fV, fL_eq cs]
  | .sl β sz o n, K => by simp [fV, fNat_eq]
  | .row sz xs, K => by simp [fV, fNat_eq, fLL_eq xs]
  | .emp b, K => by cases b <;> simp [fV]
  | .map β, K => by simp [fV, fNat_eq]
  | .fn f a c, K => by cases f <;> simp [fV, fNat_eq, fL_eq a, fL_eq c]
  | .ifc u v, K => by simp [fV, fNat_eq, fV_eq v]
  | .agg cs, K => by simp [fV, fL_eq cs]
  | .tup vs, K => by simp [fV, fL_eq vs]
  | .any, K => by simp [fV]
theorem fL_eq : ∀ (v : List AV) (K : List AV → Option α), fL v K = K v
  | [], K => by simp [fL]
  | a :: as, K => by simp [fL, fV_eq a, fL_eq as]
theorem fLL_eq : ∀ (v : List (List AV)) (K : List (List AV) → Option α), fLL v K = K v
  | [], K => by simp [fLL]
  | a :: as, K => by simp [fLL, fL_eq a, fLL_eq as]
end
def fPairs : List (AV × AV) → (List (AV × AV) → Option α) → Option α
  | [], K => K []
  | (a, b) :: r, K => fV a fun a => fV b fun b => fPairs r fun r => K ((a, b) :: r)
theorem fPairs_eq : ∀ (l : List (AV × AV)) (K : List (AV × AV) → Option α), fPairs l K = K l
  | [], K => rfl
  | (a, b) :: r, K => by simp [fPairs, fV_eq, fPairs_eq r]
def fBlk : Blk → (Blk → Option α) → Option α
  | .cells ro t cs, K => match ro with
    | true => fNat t fun t => fL cs fun cs => K (.cells true t cs)
    | false => fNat t fun t => fL cs fun cs => K (.cells false t cs)
  | .map a b es, K => fNat a fun a => fNat b fun b => fPairs es fun es => K (.map a b es)
  | .dead, K => K .dead
theorem fBlk_eq (b : Blk) (K : Blk → Option α) : fBlk b K = K b := by
  cases b with
  | cells ro t cs => cases ro <;> simp [fBlk, fNat_eq, fL_eq]
  | map a b es => simp [fBlk, fNat_eq, fPairs_eq]
  | dead => rfl
/-- A heap: its list of blocks, each in its form. -/
def fH : Heap → (Heap → Option α) → Option α
  | [], K => K []
  | b :: h, K => fBlk b fun b => fH h fun h => K (b :: h)
theorem fH_eq : ∀ (h : Heap) (K : Heap → Option α), fH h K = K h
  | [], K => rfl
  | b :: h, K => by simp [fH, fBlk_eq, fH_eq h]

def putK (d : Option Tmp) (v : AV) (t : Tr) (K : Tr → Option α) : Option α :=
  match d with
  | none => K t
  | some d => fV v fun v => setK 16 t d v K
theorem putK_ok {d : Option Tmp} {v : AV} {t : Tr} {K : Tr → Option α} {r : α} (h : putK d v t K = some r) : ∃ t', K t' = some r ∧ t'.get = putT t.get d v := by
  unfold putK at h
  cases d with
  | none => exact ⟨t, h, rfl⟩
  | some d =>
    simp only [fV_eq] at h
    exact setK_ok h

abbrev XGen (α : Type) := FuncId → List AV → Heap → (AV → Heap → Option α) → Option α
abbrev XK (α : Type) := Tr → Heap → Option α
def XGenOk (X : XGen α) (G : Gen) : Prop := ∀ f args h (K : AV → Heap → Option α) r (K' : AV → Heap → Prop), X f args h K = some r → (∀ v h, K v h = some r → K' v h) → G f args h K'

def xOp (E : Env) (X : XGen α) (o : Oper) (t : Tr) (h : Heap) (K : XK α) : Option α :=
  match pureA E t.get o with
  | some (c, v) => cond c (putK o.dst v t fun t => K t h) none
  | none => match loadA E t.get o h with
    | some (_, c, v) => cond c (putK o.dst v t fun t => K t h) none
    | none => match actA E t.get o h with
      | some a => cond a.ok (putK o.dst a.v t fun t => fH a.h fun h => K t h) none
      | none => match o.op with
        | .call { callee := .value f, args, .. } => match evs t.get args.toList with
          | some l => match callee t.get f l with
            | some (k, l) => X k l h fun v h => putK o.dst v t fun t => fH h fun h => K t h
            | none => none
          | none => none
        | _ => none

theorem xOp_ok {E : Env} {X : XGen α} {G : Gen} (hX : XGenOk X G) {o : Oper} {t : Tr} {h : Heap} {K : XK α} {r : α} {K' : Kont} (hx : xOp E X o t h K = some r) (hK : ∀ t h, K t h = some r → K' t.get h) : doOp E G o t.get h K' := by
  have put : ∀ (d : Option Tmp) (v : AV) (h : Heap), putK d v t (fun t => K t h) = some r → withV t.get d v fun t => K' t h := by
    intro d v h hp
    obtain ⟨t', k1, k2⟩ := putK_ok hp
    rw [withV_eq, ← k2]
    exact hK _ _ k1
  have puth : ∀ (d : Option Tmp) (v : AV) (h : Heap), (putK d v t fun t => fH h fun h => K t h) = some r → withV t.get d v fun t => withH h fun h => K' t h := by
    intro d v h hp
    simp only [fH_eq] at hp
    obtain ⟨t', k1, k2⟩ := putK_ok hp
    rw [withV_eq, withH_eq, ← k2]
    exact hK _ _ k1
  unfold xOp at hx
  unfold doOp
  split at hx
  · rename_i c v hp
    rw [hp]
    cases c with
    | false => cases hx
    | true => exact put _ _ _ hx
  · rename_i hp
    rw [hp]
    simp only
    split at hx
    · rename_i q c v hl
      rw [hl]
      cases c with
      | false => cases hx
      | true => exact put _ _ _ hx
    · rename_i hl
      rw [hl]
      simp only
      split at hx
      · rename_i a ha
        rw [ha]
        simp only
        cases hok : a.ok with
        | false => rw [hok] at hx; cases hx
        | true => rw [hok] at hx; exact puth _ _ _ hx
      · rename_i ha
        rw [ha]
        simp only
        split at hx
        · rename_i f args ats hop
          rw [hop]
          simp only
          split at hx
          · rename_i l hl
            rw [hl]
            simp only
            split at hx
            · rename_i k l' hc
              rw [hc]
              exact hX _ _ _ _ _ _ hx fun v h hk => puth _ _ _ hk
            · cases hx
          · cases hx
        · cases hx

def xOps (E : Env) (X : XGen α) (ops : Array Oper) : List Oper → Tr → Heap → XK α → Option α
  | [], t, h, K => K t h
  | o :: rest, t, h, K => match o.guard with
    | none => xOp E X o t h fun t h => xOps E X ops rest t h K
    | some (j, want) => match guardT ops j with
      | none => none
      | some d => match t.get d with
        | .bool b => cond b
            (cond want (xOp E X o t h fun t h => xOps E X ops rest t h K) (putK o.dst .undef t fun t => xOps E X ops rest t h K))
            (cond want (putK o.dst .undef t fun t => xOps E X ops rest t h K) (xOp E X o t h fun t h => xOps E X ops rest t h K))
        | .tup [] => putK o.dst .undef t fun t => xOps E X ops rest t h K
        | _ => none
end
theorem upd_same {t : Nat → AV} {d : Nat} {v : AV} (h : t d = v) : upd t d v = t := by
  funext i
  unfold upd
  cases hb : Nat.beq i d with
  | false => rfl
  | true => simp only [Nat.beq_eq] at hb; subst hb; exact h.symm
section
variable {α : Type}
theorem xOps_ok {E : Env} {X : XGen α} {G : Gen} (hX : XGenOk X G) {ops : Array Oper} : ∀ {l : List Oper} {t : Tr} {h : Heap} {K : XK α} {r : α} {K' : Kont}, xOps E X ops l t h K = some r → (∀ t h, K t h = some r → K' t.get h) → awpOps E G ops l t.get h K'
  | [], t, h, K, r, K', hx, hK => hK _ _ hx
  | o :: rest, t, h, K, r, K', hx, hK => by
    unfold xOps at hx
    unfold awpOps
    have run : ∀ t h, xOps E X ops rest t h K = some r → awpOps E G ops rest t.get h K' := fun t h hx => xOps_ok hX hx hK
    have skp : (putK o.dst .undef t fun t => xOps E X ops rest t h K) = some r → awpOps E G ops rest (putT t.get o.dst .undef) h K' := by
      intro hp
      obtain ⟨t', k1, k2⟩ := putK_ok hp
      rw [← k2]
      exact run _ _ k1
    split at hx
    · rename_i hg
      rw [hg]
      exact xOp_ok (K' := fun t h => awpOps E G ops rest t h K') hX hx run
    · rename_i j want hg
      rw [hg]
      simp only
      split at hx
      · cases hx
      · rename_i d hd
        rw [hd]
        simp only
        split at hx
        · rename_i b hb
          rw [hb]
          simp only
          cases b <;> cases want <;> simp only [cond_true, cond_false] at hx ⊢ <;> rw [upd_same hb] <;> first | exact xOp_ok (K' := fun t h => awpOps E G ops rest t h K') hX hx run | exact skp hx
        · rename_i hb
          rw [hb]
          exact skp hx
        · cases hx

def xOpD (E : Env) (i : Nat) (o : Oper) (t : Tr) (h : Heap) (L : List Log) (K : Tr → Heap → List Log → Option α) : Option α :=
  match pureA E t.get o with
  | some (c, v) => cond c (putK o.dst v t fun t => K t h L) none
  | none => match loadA E t.get o h with
    | some (none, c, v) => cond c (putK o.dst v t fun t => K t h L) none
    | some (some β, c, v) => cond c (putK o.dst v t fun t => K t h (.rd i β :: L)) none
    | none => match actA E t.get o h with
      | some a => cond a.ok (putK o.dst a.v t fun t => fH a.h fun h => K t h (.act i a.T :: L)) none
      | none => match o.op with
        | .call { callee := .value f, args, .. } => match evs t.get args.toList with
          | some l => match callee t.get f l with
            | some (k, l) => match E.Cp k l with
              | some (c, v) => cond c (putK o.dst v t fun t => K t h L) none
              | none => match E.Cr k l h with
                | some (R, c, v) => cond c (putK o.dst v t fun t => K t h (R.map (.rd i) ++ L)) none
                | none => match E.C k l h with
                  | some a => cond a.ok (putK o.dst a.v t fun t => fH a.h fun h => K t h (.act i a.T :: L)) none
                  | none => none
            | none => none
          | none => none
        | _ => none

theorem xOpD_ok {E : Env} {i : Nat} {o : Oper} {t : Tr} {h : Heap} {L : List Log} {K : Tr → Heap → List Log → Option α} {r : α} {K' : (Nat → AV) → Heap → List Log → Prop} (hx : xOpD E i o t h L K = some r)
    (hK : ∀ t h L, K t h L = some r → K' t.get h L) : doOpD E i o t.get h L K' := by
  have put : ∀ (d : Option Tmp) (v : AV) (h : Heap) (L : List Log), putK d v t (fun t => K t h L) = some r → withV t.get d v fun t => K' t h L := by
    intro d v h L hp
    obtain ⟨t', k1, k2⟩ := putK_ok hp
    rw [withV_eq, ← k2]
    exact hK _ _ _ k1
  have puth : ∀ (d : Option Tmp) (v : AV) (h : Heap) (L : List Log), (putK d v t fun t => fH h fun h => K t h L) = some r → withV t.get d v fun t => withH h fun h => K' t h L := by
    intro d v h L hp
    simp only [fH_eq] at hp
    obtain ⟨t', k1, k2⟩ := putK_ok hp
    rw [withV_eq, withH_eq, ← k2]
    exact hK _ _ _ k1
  unfold xOpD at hx
  unfold doOpD
  split at hx
  · rename_i c v hp
    rw [hp]
    cases c with
    | false => cases hx
    | true => exact put _ _ _ _ hx
  · rename_i hp
    rw [hp]
    simp only
    split at hx
    · rename_i c v hl
      rw [hl]
      cases c with
      | false => cases hx
      | true => exact put _ _ _ _ hx
    · rename_i β c v hl
      rw [hl]
      cases c with
      | false => cases hx
      | true => exact put _ _ _ _ hx
    · rename_i hl
      rw [hl]
      simp only
      split at hx
      · rename_i a ha
        rw [ha]
        simp only
        cases hok : a.ok with
        | false => rw [hok] at hx; cases hx
        | true => rw [hok] at hx; exact puth _ _ _ _ hx
      · rename_i ha
        rw [ha]
        simp only
        split at hx
        · rename_i f args ats hop
          rw [hop]
          simp only
          split at hx
          · rename_i l hl
            rw [hl]
            simp only
            split at hx
            · rename_i k l' hc
              rw [hc]
              simp only
              split at hx
              · rename_i c v hp
                rw [hp]
                cases c with
                | false => cases hx
                | true => exact put _ _ _ _ hx
              · rename_i hp
                rw [hp]
                simp only
                split at hx
                · rename_i R c v hr
                  rw [hr]
                  cases c with
                  | false => cases hx
                  | true => exact put _ _ _ _ hx
                · rename_i hr
                  rw [hr]
                  simp only
                  split at hx
                  · rename_i a ha
                    rw [ha]
                    simp only
                    cases hok : a.ok with
                    | false => rw [hok] at hx; cases hx
                    | true => rw [hok] at hx; exact puth _ _ _ _ hx
                  · cases hx
            · cases hx
          · cases hx
        · cases hx

def xOpsD (E : Env) (ops : Array Oper) : List Oper → Nat → Tr → Heap → List Log → XK α → Option α
  | [], _, t, h, L, K => cond (chkAll (befs ops.toList []) L) (K t h) none
  | o :: rest, i, t, h, L, K => match o.guard with
    | none => xOpD E i o t h L fun t h L => xOpsD E ops rest (i + 1) t h L K
    | some (j, want) => match guardT ops j with
      | none => none
      | some d => match t.get d with
        | .bool b => cond b
            (cond want (xOpD E i o t h L fun t h L => xOpsD E ops rest (i + 1) t h L K) (putK o.dst .undef t fun t => xOpsD E ops rest (i + 1) t h L K))
            (cond want (putK o.dst .undef t fun t => xOpsD E ops rest (i + 1) t h L K) (xOpD E i o t h L fun t h L => xOpsD E ops rest (i + 1) t h L K))
        | .tup [] => putK o.dst .undef t fun t => xOpsD E ops rest (i + 1) t h L K
        | _ => none
theorem xOpsD_ok {E : Env} {ops : Array Oper} : ∀ {l : List Oper} {i : Nat} {t : Tr} {h : Heap} {L : List Log} {K : XK α} {r : α} {K' : Kont}, xOpsD E ops l i t h L K = some r → (∀ t h, K t h = some r → K' t.get h) → awpOpsD E ops l i t.get h L K'
  | [], i, t, h, L, K, r, K', hx, hK => by
    unfold xOpsD at hx
    unfold awpOpsD
    cases hb : chkAll (befs ops.toList []) L with
    | false => rw [hb] at hx; cases hx
    | true => rw [hb] at hx; exact hK _ _ hx
  | o :: rest, i, t, h, L, K, r, K', hx, hK => by
    unfold xOpsD at hx
    unfold awpOpsD
    have run : ∀ t h L, xOpsD E ops rest (i + 1) t h L K = some r → awpOpsD E ops rest (i + 1) t.get h L K' := fun t h L hx => xOpsD_ok hx hK
    have skp : (putK o.dst .undef t fun t => xOpsD E ops rest (i + 1) t h L K) = some r → awpOpsD E ops rest (i + 1) (putT t.get o.dst .undef) h L K' := by
      intro hp
      obtain ⟨t', k1, k2⟩ := putK_ok hp
      rw [← k2]
      exact run _ _ _ k1
    split at hx
    · rename_i hg
      rw [hg]
      exact xOpD_ok (K' := fun t h L => awpOpsD E ops rest (i + 1) t h L K') hx run
    · rename_i j want hg
      rw [hg]
      simp only
      split at hx
      · cases hx
      · rename_i d hd
        rw [hd]
        simp only
        split at hx
        · rename_i b hb
          rw [hb]
          simp only
          cases b <;> cases want <;> simp only [cond_true, cond_false] at hx ⊢ <;> rw [upd_same hb] <;> first | exact xOpD_ok (K' := fun t h L => awpOpsD E ops rest (i + 1) t h L K') hx run | exact skp hx
        · rename_i hb
          rw [hb]
          exact skp hx
        · cases hx

abbrev XKE (α : Type) := Ex → Tr → Heap → Option α
def xRounds (body : Tr → Heap → XKE α → Option α) (K : XKE α) : Nat → Tr → Heap → Option α
  | 0, _, _ => none
  | n + 1, t, h => body t h fun e t h => match e with
    | .normal => xRounds body K n t h
    | e => K e t h
def xCode (E : Env) (X : XGen α) (N : Nat) : Code → Tr → Heap → XKE α → Option α
  | .skip, t, h, K => K .normal t h
  | .label _, t, h, K => K .normal t h
  | .region _ ops draw, t, h, K => cond draw (xOpsD E ops ops.toList 0 t h [] (K .normal)) (xOps E X ops ops.toList t h (K .normal))
  | .seq a b, t, h, K => xCode E X N a t h fun e t h => match e with
    | .normal => xCode E X N b t h K
    | e => K e t h
  | .cond c a b, t, h, K => match ev t.get c with
    | some (.bool c) => cond c (xCode E X N a t h K) (xCode E X N b t h K)
    | _ => none
  | .block id c, t, h, K => xCode E X N c t h fun e t h => match e with
    | .exit i => cond (Nat.beq i id) (K .normal t h) (K (.exit i) t h)
    | e => K e t h
  | .loop c, t, h, K => xRounds (xCode E X N c) K N t h
  | .scope c, t, h, K => xCode E X N c t h K
  | .exit id, t, h, K => K (.exit id) t h
  | .ret, t, h, K => K .ret t h
  | _, _, _, _ => none

theorem xRounds_ok {bodyX : Tr → Heap → XKE α → Option α} {body : (Nat → AV) → Heap → KontE → Prop} {r : α} {K : XKE α} {K' : KontE}
    (hb : ∀ t h (J : XKE α) (J' : KontE), bodyX t h J = some r → (∀ e t h, J e t h = some r → J' e t.get h) → body t.get h J') (hK : ∀ e t h, K e t h = some r → K' e t.get h) :
    ∀ (n : Nat) (t : Tr) (h : Heap), xRounds bodyX K n t h = some r → rounds body K' n t.get h
  | 0, _, _, hx => by cases hx
  | n + 1, t, h, hx => by
    unfold xRounds at hx
    unfold rounds
    refine hb _ _ _ _ hx fun e t h he => ?_
    cases e with
    | normal => exact xRounds_ok hb hK n t h he
    | exit id => exact hK _ _ _ he
    | ret => exact hK _ _ _ he

theorem xCode_ok {E : Env} {X : XGen α} {G : Gen} (hX : XGenOk X G) {N : Nat} : ∀ (c : Code) {t : Tr} {h : Heap} {K : XKE α} {r : α} {K' : KontE}, xCode E X N c t h K = some r → (∀ e t h, K e t h = some r → K' e t.get h) → awp E G c t.get h K'
  | .skip, t, h, K, r, K', hx, hK => by unfold awp; unfold xCode at hx; exact hK _ _ _ hx
  | .label _, t, h, K, r, K', hx, hK => by unfold awp; unfold xCode at hx; exact hK _ _ _ hx
  | .region _ ops draw, t, h, K, r, K', hx, hK => by
    unfold awp; unfold xCode at hx
    cases draw with
    | true => exact xOpsD_ok hx fun t h => hK .normal t h
    | false => exact xOps_ok hX hx fun t h => hK .normal t h
  | .seq a b, t, h, K, r, K', hx, hK => by
    unfold awp; unfold xCode at hx
    refine xCode_ok hX a hx fun e t h he => ?_
    cases e with
    | normal => exact xCode_ok hX b he hK
    | exit id => exact hK _ _ _ he
    | ret => exact hK _ _ _ he
  | .cond c a b, t, h, K, r, K', hx, hK => by
    unfold awp; unfold xCode at hx
    split at hx
    · rename_i c' hc
      rw [hc]
      cases c' with
      | true => exact xCode_ok hX a hx hK
      | false => exact xCode_ok hX b hx hK
    · cases hx
  | .block id c, t, h, K, r, K', hx, hK => by
    unfold awp; unfold xCode at hx
    refine xCode_ok hX c hx fun e t h he => ?_
    cases e with
    | normal => exact hK _ _ _ he
    | ret => exact hK _ _ _ he
    | exit i =>
      simp only at he ⊢
      cases hb : Nat.beq i id with
      | true => rw [hb] at he; exact hK _ _ _ he
      | false => rw [hb] at he; exact hK _ _ _ he
  | .loop c, t, h, K, r, K', hx, hK => by
    unfold awp; unfold xCode at hx
    exact ⟨N, xRounds_ok (fun t h J J' h1 h2 => xCode_ok hX c h1 h2) hK N t h hx⟩
  | .scope c, t, h, K, r, K', hx, hK => by unfold awp; unfold xCode at hx; exact xCode_ok hX c hx hK
  | .exit id, t, h, K, r, K', hx, hK => by unfold awp; unfold xCode at hx; exact hK _ _ _ hx
  | .ret, t, h, K, r, K', hx, hK => by unfold awp; unfold xCode at hx; exact hK _ _ _ hx
  | .rangeFunc .., _, _, _, _, _, hx, _ => by simp [xCode] at hx
  | .goto _, _, _, _, _, _, hx, _ => by simp [xCode] at hx
  | .refuse _, _, _, _, _, _, hx, _ => by simp [xCode] at hx

/-- The arguments, as slots. -/
def argsT : List AV → Nat → Tr → (Tr → Option α) → Option α
  | [], _, t, K => K t
  | a :: as, i, t, K => fV a fun a => setK 16 t i a fun t => argsT as (i + 1) t K
theorem argsT_ok : ∀ {as : List AV} {i : Nat} {t : Tr} {K : Tr → Option α} {r : α}, argsT as i t K = some r → (∀ k, i ≤ k → t.get k = .undef) →
    ∃ t', K t' = some r ∧ t'.get = fun k => cond (Nat.ble i k) (as.getD (k - i) .undef) (t.get k)
  | [], i, t, K, r, h, hu => ⟨t, h, by
      funext k
      cases hb : Nat.ble i k with
      | false => rfl
      | true => simpa using hu k (by simpa using hb)⟩
  | a :: as, i, t, K, r, h, hu => by
    unfold argsT at h
    simp only [fV_eq] at h
    obtain ⟨t1, k1, k2⟩ := setK_ok h
    obtain ⟨t2, k3, k4⟩ := argsT_ok k1 (by
      intro k hk
      rw [k2]
      unfold upd
      rw [bne (by omega)]
      exact hu k (by omega))
    refine ⟨t2, k3, ?_⟩
    rw [k4, k2]
    funext k
    by_cases h1 : i = k
    · subst h1
      have e1 : Nat.ble (i + 1) i = false := by
        cases hb : Nat.ble (i + 1) i with
        | false => rfl
        | true => simp at hb; omega
      have e2 : Nat.ble i i = true := by simp
      rw [e1, e2]
      simp [upd]
    · by_cases h2 : i ≤ k
      · have e1 : Nat.ble (i + 1) k = true := by simp; omega
        have e2 : Nat.ble i k = true := by simpa using h2
        rw [e1, e2]
        simp only [cond_true]
        have : k - i = (k - (i + 1)) + 1 := by omega
        rw [this]
        simp
      · have e1 : Nat.ble (i + 1) k = false := by
          cases hb : Nat.ble (i + 1) k with
          | false => rfl
          | true => simp at hb; omega
        have e2 : Nat.ble i k = false := by
          cases hb : Nat.ble i k with
          | false => rfl
          | true => simp at hb; omega
        rw [e1, e2]
        simp only [cond_false, upd]
        rw [bne (by omega)]
        rfl

def xFn (E : Env) (X : XGen α) (N : Nat) (fn : Func) (args : List AV) (h : Heap) (K : AV → Heap → Option α) : Option α :=
  match fn.body with
  | none => none
  | some c => argsT args 0 .nil fun t => xCode E X N c t h fun e t h => match e with
    | .exit _ => none
    | _ => match resultsA E t.get h fn.results.toList with
      | some (c, l) => cond c (fV (oneOrTup l) fun v => K v h) none
      | none => none

theorem xFn_ok {E : Env} {X : XGen α} {G : Gen} (hX : XGenOk X G) {N : Nat} {fn : Func} {args : List AV} {h : Heap} {K : AV → Heap → Option α} {r : α} {K' : AV → Heap → Prop} (hx : xFn E X N fn args h K = some r)
    (hK : ∀ v h, K v h = some r → K' v h) : awpFn E G fn args h K' := by
  unfold xFn at hx
  unfold awpFn
  cases hb : fn.body with
  | none => rw [hb] at hx; cases hx
  | some c =>
    rw [hb] at hx
    simp only at hx ⊢
    obtain ⟨t', k1, k2⟩ := argsT_ok hx (fun k _ => rfl)
    have e : t'.get = fun i => args.getD i .undef := by
      rw [k2]
      funext k
      have : Nat.ble 0 k = true := by simp
      rw [this]
      simp
    rw [← e]
    refine xCode_ok hX c k1 fun e t h he => ?_
    cases e with
    | exit id => cases he
    | normal =>
      simp only at he ⊢
      split at he
      · rename_i c' l hr
        rw [hr]
        cases c' with
        | false => cases he
        | true => exact hK _ _ (by simpa [fV_eq] using he)
      · cases he
    | ret =>
      simp only at he ⊢
      split at he
      · rename_i c' l hr
        rw [hr]
        cases c' with
        | false => cases he
        | true => exact hK _ _ (by simpa [fV_eq] using he)
      · cases he

def xInl (E : Env) (N : Nat) : Nat → XGen α
  | 0, f, args, h, K => match E.C f args h with
    | some a => cond a.ok (fV a.v fun v => K v a.h) none
    | none => none
  | d + 1, f, args, h, K => match E.C f args h with
    | some a => cond a.ok (fV a.v fun v => K v a.h) none
    | none => match E.fns f with
      | some fn => xFn E (xInl E N d) N fn args h K
      | none => none
theorem xInl_ok {E : Env} {N : Nat} : ∀ d, XGenOk (α := α) (xInl E N d) (inl E d)
  | 0 => by
    intro f args h K r K' hx hK
    unfold xInl at hx
    unfold inl
    split at hx
    · rename_i a ha
      rw [ha]
      simp only
      cases hok : a.ok with
      | false => rw [hok] at hx; cases hx
      | true => rw [hok] at hx; exact hK _ _ (by simpa [fV_eq] using hx)
    · cases hx
  | d + 1 => by
    intro f args h K r K' hx hK
    unfold xInl at hx
    unfold inl
    split at hx
    · rename_i a ha
      rw [ha]
      simp only
      cases hok : a.ok with
      | false => rw [hok] at hx; cases hx
      | true => rw [hok] at hx; exact hK _ _ (by simpa [fV_eq] using hx)
    · rename_i ha
      rw [ha]
      simp only
      split at hx
      · rename_i fn hf
        rw [hf]
        exact xFn_ok (xInl_ok d) hx hK
      · cases hx
end

/-! Calls of what names no block: run apart, from an empty heap. -/
mutual
def solidB : AV → Bool
  | .ptr _ _ | .sl _ _ _ _ | .map _ => false
  | .rp cs => solidsB cs
  | .row _ xs => solidssB xs
  | .fn _ a c => solidsB a && solidsB c
  | .ifc _ v => solidB v
  | .agg cs => solidsB cs
  | .tup cs => solidsB cs
  | _ => true
def solidsB : List AV → Bool
  | [] => true
  | a :: as => solidB a && solidsB as
def solidssB : List (List AV) → Bool
  | [] => true
  | a :: as => solidsB a && solidssB as
end
mutual
theorem solidB_ok : ∀ (a : AV), solidB a = true → Solid a
  | .ptr _ _, h | .sl _ _ _ _, h | .map _, h => by simp [solidB] at h
  | .rp cs, h => by unfold Solid; unfold solidB at h; exact solidsB_ok cs h
  | .row _ xs, h => by unfold Solid; unfold solidB at h; exact solidssB_ok xs h
  | .fn _ a c, h => by unfold Solid; unfold solidB at h; simp only [Bool.and_eq_true] at h; exact ⟨solidsB_ok a h.1, solidsB_ok c h.2⟩
  | .ifc _ v, h => by unfold Solid; unfold solidB at h; exact solidB_ok v h
  | .agg cs, h => by unfold Solid; unfold solidB at h; exact solidsB_ok cs h
  | .tup cs, h => by unfold Solid; unfold solidB at h; exact solidsB_ok cs h
  | .bool _, _ | .int _ _, _ | .str _, _ | .nilp, _ | .nilm, _ | .nilf, _ | .nili, _ | .emp _, _ | .any, _ => by unfold Solid; trivial
theorem solidsB_ok : ∀ (l : List AV), solidsB l = true → Solids l
  | [], _ => by unfold Solids; trivial
  | a :: as, h => by unfold Solids; unfold solidsB at h; simp only [Bool.and_eq_true] at h; exact ⟨solidB_ok a h.1, solidsB_ok as h.2⟩
theorem solidssB_ok : ∀ (l : List (List AV)), solidssB l = true → Solidss l
  | [], _ => by unfold Solidss; trivial
  | a :: as, h => by unfold Solidss; unfold solidssB at h; simp only [Bool.and_eq_true] at h; exact ⟨solidsB_ok a h.1, solidssB_ok as h.2⟩
end
def fzB (h : Heap) : Nat → AV → Bool
  | 0, a => solidB a
  | k + 1, .sl β sz off len => match h.at β with
    | .cells false _ cs => Nat.ble (off + len * sz) cs.length && ((cs.drop off).take (len * sz)).all (fzB h k)
    | _ => false
  | k + 1, .agg cs => cs.all (fzB h k)
  | k + 1, .tup cs => cs.all (fzB h k)
  | _ + 1, a => solidB a
theorem fzB_ok {h : Heap} : ∀ (k : Nat) (a : AV), fzB h k a = true → fzOk h k a
  | 0, a, e => by unfold fzOk; exact solidB_ok a e
  | k + 1, a, e => by
    cases a with
    | sl β sz off len =>
      unfold fzB at e
      unfold fzOk
      split at e
      · rename_i hb
        rw [hb]
        simp only [Bool.and_eq_true, Nat.ble_eq, List.all_eq_true] at e
        exact ⟨e.1, fun c hc => fzB_ok k c (e.2 c hc)⟩
      · cases e
    | agg cs =>
      unfold fzB at e
      unfold fzOk
      simp only [List.all_eq_true] at e
      exact fun c hc => fzB_ok k c (e c hc)
    | tup cs =>
      unfold fzB at e
      unfold fzOk
      simp only [List.all_eq_true] at e
      exact fun c hc => fzB_ok k c (e c hc)
    | _ => unfold fzB at e; unfold fzOk; exact solidB_ok _ e

def runP (E : Env) (N d : Nat) : FuncId → List AV → Option (Bool × AV) := fun f args => cond (solidsB args) (match E.fns f with
  | some fn => match xFn (α := AV) E (xInl E N d) N fn args [] (fun v h' => cond (fzB h' 5 v) (fV (fz h' 5 v) some) none) with
    | some v => some (true, v)
    | none => none
  | none => none) none
theorem runP_ok {P : Program} {E : Env} (hE : EnvOk P E) (N d : Nat) : CpOk P (runP E N d) := by
  intro f args v hc
  unfold runP at hc
  cases hs : solidsB args with
  | false => rw [hs] at hc; cases hc
  | true =>
    rw [hs] at hc
    simp only [cond_true] at hc
    split at hc
    · rename_i fn hf
      split at hc
      · rename_i v' hx
        simp only [Option.some.injEq, Prod.mk.injEq, true_and] at hc
        subst hc
        obtain ⟨k1, k2⟩ := hE.fns f fn hf
        exact pure_of hE (inl_ok hE d) k1 k2 (solidsB_ok _ hs) (xFn_ok (xInl_ok d) hx (K' := fun v'' h' => fzOk h' 5 v'' ∧ fz h' 5 v'' = v') fun v'' h' he => by
          cases hb : fzB h' 5 v'' with
          | false => rw [hb] at he; cases he
          | true => rw [hb] at he; exact ⟨fzB_ok _ _ hb, by simpa [fV_eq] using he⟩)
      · cases hc
    · cases hc

def orC (C D : Contracts) : Contracts := fun f args h => match C f args h with
  | some a => some a
  | none => D f args h
theorem orC_ok {P : Program} {C D : Contracts} (hC : CtrOk P C) (hD : CtrOk P D) : CtrOk P (orC C D) := by
  intro f args h ans hc hok
  unfold orC at hc
  split at hc
  · rename_i a ha
    simp only [Option.some.injEq] at hc
    subst hc
    exact hC f args h _ ha hok
  · exact hD f args h ans hc hok
def orP (C D : FuncId → List AV → Option (Bool × AV)) : FuncId → List AV → Option (Bool × AV) := fun f args => match C f args with
  | some a => some a
  | none => D f args
theorem orP_ok {P : Program} {C D : FuncId → List AV → Option (Bool × AV)} (hC : CpOk P C) (hD : CpOk P D) : CpOk P (orP C D) := by
  intro f args v hc
  unfold orP at hc
  split at hc
  · rename_i a ha
    simp only [Option.some.injEq] at hc
    subst hc
    exact hC f args _ ha
  · exact hD f args v hc
/-- Contracts without the heap, as contracts. -/
def liftP (C : FuncId → List AV → Option (Bool × AV)) : Contracts := fun f args h => (C f args).map fun p => ⟨p.1, p.2, h, []⟩
theorem liftP_ok {P : Program} {C : FuncId → List AV → Option (Bool × AV)} (hC : CpOk P C) : CtrOk P (liftP C) := by
  intro f args h ans hc hok
  unfold liftP at hc
  simp only [Option.map_eq_some_iff] at hc
  obtain ⟨⟨ok, v⟩, h1, rfl⟩ := hc
  simp only at hok
  subst hok
  obtain ⟨k1, k2⟩ := hC f args v h1
  exact ⟨k1, fun _ _ => rfl, fun B ρ own w cargs H hl => k2 B ρ own w h cargs H hl⟩
def noP : FuncId → List AV → Option (Bool × AV) := fun _ _ => none
theorem noP_ok {P : Program} : CpOk P noP := fun _ _ _ h => by cases h
end Go.Abs
