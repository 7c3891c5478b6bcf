import Derived.Test.YtaifmmemfmapkaaGreatAbsEb
set_option linter.unusedVariables false
set_option linter.unusedSimpArgs false
namespace Go.Abs
open Go.RowKit

/-! Calls that only read the heap: run over the heap whose blocks can't be written; the heap stays as it is. -/
def roBlk : Blk → Blk
  | .cells _ t cs => .cells true t cs
  | _ => .dead
def roH (h : Heap) : Heap := h.map roBlk
theorem roH_at (h : Heap) (β : Nat) : (roH h).at β = roBlk (h.at β) := by
  unfold roH Heap.at
  rw [List.getD_eq_getElem?_getD, List.getD_eq_getElem?_getD, List.getElem?_map]
  cases h[β]? <;> rfl
theorem roH_length (h : Heap) : (roH h).length = h.length := by simp [roH]
def isCells : Blk → Bool
  | .cells .. => true
  | _ => false

section
variable {B : Nat} {ρ ρ' : Nat → Option Nat} {own own' : Nat → Prop} {w w' : World} {h h' : Heap}
theorem roH_hr (H : HR B ρ own w h) : HR w.heap.size ρ own w (roH h) := by
  have notlive : ∀ β, ¬ ((roH h).at β).live := by
    intro β hl
    rw [roH_at] at hl
    cases hk : h.at β <;> rw [hk] at hl
    · cases hl
    · exact hl
    · exact hl
  refine ⟨fun β => ?_, fun β hβ => H.dom β (by rwa [roH_length] at hβ), fun β β' b l => (notlive β l).elim, fun β b hr hro => ?_, H.own, fun β b l => (notlive β l).elim, Nat.le_refl _⟩
  · rw [roH_at]
    have hb := H.blk β
    cases hk : h.at β with
    | cells ro t cs =>
      rw [hk] at hb
      obtain ⟨b, n, h1, h2, h3, h4, _, _⟩ := hb
      exact ⟨b, n, h1, h2, h3, h4, (fun e => by cases e), trivial⟩
    | map => trivial
    | dead => trivial
  · right
    rw [roH_at] at hro
    have hb := H.blk β
    cases hk : h.at β with
    | cells ro t cs =>
      rw [hk] at hb
      obtain ⟨b', n, h1, h2, _⟩ := hb
      rw [h1] at hr
      cases hr
      exact shape_lt h2
    | map => rw [hk] at hro; exact hro.elim
    | dead => rw [hk] at hro; exact hro.elim

/-- A value as it stands apart from the new blocks. -/
def fzN (h : Heap) (n : Nat) : Nat → AV → AV
  | 0, a => a
  | k + 1, .sl β sz off len => cond (Nat.blt β n) (.sl β sz off len) (match h.at β with
    | .cells false _ cs => .row sz ((chunk sz len (cs.drop off)).map fun x => x.map (fzN h n k))
    | _ => .sl β sz off len)
  | k + 1, .agg cs => .agg (cs.map (fzN h n k))
  | k + 1, .tup cs => .tup (cs.map (fzN h n k))
  | _ + 1, a => a
def fzNB (h0 h : Heap) (n : Nat) : Nat → AV → Bool
  | 0, a => solidB a
  | k + 1, .sl β sz off len => cond (Nat.blt β n) (isCells (h0.at β)) (match h.at β with
    | .cells false _ cs => Nat.ble (off + len * sz) cs.length && ((cs.drop off).take (len * sz)).all (fzNB h0 h n k)
    | _ => false)
  | k + 1, .ptr β _ => Nat.blt β n && isCells (h0.at β)
  | k + 1, .agg cs => cs.all (fzNB h0 h n k)
  | k + 1, .tup cs => cs.all (fzNB h0 h n k)
  | _ + 1, a => solidB a

theorem fzN_sound {B' : Nat} (H : HR B' ρ' own' w h') (ho : ∀ b, own b → own' b) (hB : ∀ b, own b → b < B') {h0 : Heap} {n : Nat} (hold : ∀ β, isCells (h0.at β) = true → ∃ b, ρ β = some b ∧ ρ' β = some b) :
    ∀ (k : Nat) (a : AV) (v : Value), fzNB h0 h' n k a = true → VR ρ' own' w a v → VR ρ own w (fzN h' n k a) v
  | 0, a, v, hs, hv => by unfold fzNB at hs; unfold fzN; exact VR.solid ho a v (solidB_ok a hs) hv
  | k + 1, a, v, hs, hv => by
    have lists : ∀ (cs : List AV) (vs : List Value), (∀ c ∈ cs, fzNB h0 h' n k c = true) → LR ρ' own' w cs vs → LR ρ own w (cs.map (fzN h' n k)) vs := by
      intro cs vs hc hl
      refine LR.of (by simpa using hl.length) fun i x hx => ?_
      rw [List.getElem?_map, Option.map_eq_some_iff] at hx
      obtain ⟨c, hc', rfl⟩ := hx
      obtain ⟨v, k1, k2⟩ := hl.get hc'
      exact ⟨v, k1, fzN_sound H ho hB hold k c v (hc c (List.mem_of_getElem? hc')) k2⟩
    cases a with
    | sl β sz off len =>
      unfold fzNB at hs
      unfold fzN
      cases hβn : Nat.blt β n with
      | true =>
        rw [hβn] at hs
        simp only [cond_true] at hs ⊢
        obtain ⟨b, b1, b2⟩ := hold β hs
        unfold VR at hv ⊢
        obtain ⟨b', A, cap, t, m, r1, r⟩ := hv
        rw [b2] at r1
        cases r1
        exact ⟨b, A, cap, t, m, b1, r⟩
      | false =>
        rw [hβn] at hs
        simp only [cond_false] at hs ⊢
        split at hs
        · rename_i t cs hβ
          simp only [Bool.and_eq_true, Nat.ble_eq, List.all_eq_true] at hs
          obtain ⟨hle, hc⟩ := hs
          unfold VR at hv
          obtain ⟨b, A, cap, t', n', r1, rfl, hlc, hA, hsh, hn⟩ := hv
          have hbr := H.blk β
          rw [hβ] at hbr
          obtain ⟨b', n'', r2, sh2, hcn, hcell, hro1, _⟩ := hbr
          rw [r1] at r2
          cases r2
          have hnb : ¬ own b := by
            intro hb
            have := H.low β b (by rw [hβ]; rfl) r1
            have := hB b hb
            omega
          unfold VR
          refine ⟨A, cap, by simp [chunk_length], by simpa [chunk_length] using hlc, fun hp => ?_⟩
          simp only [List.length_map, chunk_length] at hp
          refine ⟨⟨b, off, none⟩, hA (by omega), RR.of fun j x hj => ?_⟩
          rw [List.getElem?_map, Option.map_eq_some_iff] at hj
          obtain ⟨y, hy, rfl⟩ := hj
          obtain ⟨hj1, rfl⟩ := chunk_get _ _ _ _ _ hy
          have hjs : (j + 1) * sz ≤ len * sz := Nat.mul_le_mul_right _ (by omega)
          rw [Nat.add_mul, Nat.one_mul] at hjs
          refine ⟨by simp; omega, CR.of fun m c hm => ?_⟩
          rw [List.getElem?_map, Option.map_eq_some_iff] at hm
          obtain ⟨c', hc', rfl⟩ := hm
          rw [List.getElem?_take] at hc'
          split at hc'
          · rename_i hms
            rw [List.getElem?_drop, List.getElem?_drop] at hc'
            obtain ⟨v, k1, k2, k3⟩ := hcell _ _ hc'
            refine ⟨v, ?_, hnb, fzN_sound H ho hB hold k c' v (hc c' ?_) k2, k3⟩
            · rw [add_off, Nat.zero_add]; rw [← k1]
            · refine List.mem_of_getElem? (i := j * sz + m) ?_
              rw [List.getElem?_take, if_pos (by omega), List.getElem?_drop]
              exact hc'
          · cases hc'
        · cases hs
    | ptr β o =>
      unfold fzNB at hs
      unfold fzN
      simp only [Bool.and_eq_true] at hs
      obtain ⟨b, b1, b2⟩ := hold β hs.2
      unfold VR at hv ⊢
      obtain ⟨b', r1, e⟩ := hv
      rw [b2] at r1
      cases r1
      exact ⟨b, b1, e⟩
    | agg cs =>
      unfold fzNB at hs
      unfold fzN
      simp only [List.all_eq_true] at hs
      unfold VR at hv ⊢
      obtain ⟨c, rfl, hl, h1⟩ := hv
      exact ⟨c, rfl, lists cs _ hs hl, h1⟩
    | tup cs =>
      unfold fzNB at hs
      unfold fzN
      simp only [List.all_eq_true] at hs
      unfold VR at hv ⊢
      obtain ⟨c, rfl, hl⟩ := hv
      exact ⟨c, rfl, lists cs _ hs hl⟩
    | _ => unfold fzNB at hs; unfold fzN; exact VR.solid ho _ v (solidB_ok _ hs) hv
end

def runO (E : Env) (N d : Nat) : Contracts := fun f args h => match E.fns f with
  | some fn => match fH (α := AV) (roH h) (fun h1 => xFn (α := AV) E (xInl E N d) N fn args h1 (fun v h' => cond (fzNB h h' h.length 5 v) (fV (fzN h' h.length 5 v) some) none)) with
    | some v => some ⟨true, v, h, []⟩
    | none => none
  | none => none
theorem runO_ok {P : Program} {E : Env} (hE : EnvOk P E) (N d : Nat) : CtrOk P (runO E N d) := by
  intro f args h ans hc hok
  unfold runO at hc
  split at hc
  · rename_i fn hf
    rw [fH_eq] at hc
    split at hc
    · rename_i v hx
      simp only [Option.some.injEq] at hc
      subst hc
      obtain ⟨k1, k2⟩ := hE.fns f fn hf
      have hk := xFn_ok (xInl_ok (E := E) (N := N) d) hx (K' := fun v' h' => fzNB h h' h.length 5 v' = true ∧ fzN h' h.length 5 v' = v) fun v' h' he => by
        cases hb : fzNB h h' h.length 5 v' with
        | false => rw [hb] at he; cases he
        | true => rw [hb] at he; exact ⟨rfl, by simpa [fV_eq] using he⟩
      obtain ⟨h1, h2⟩ := awpFn_sound hE (inl_ok hE d) k1 k2 hk
      refine ⟨h1, fun β hβ => rfl, fun B ρ own w cargs H hl => ?_⟩
      refine (h2 w.heap.size ρ own w cargs (roH_hr H) hl).mono ?_
      rintro e w' ⟨v', h', cv, ρ', own', rfl, ⟨f1, f2⟩, H', E', V'⟩
      have hE' : Ext B ρ own w ρ own w' := ⟨E'.os, E'.tape, E'.output, E'.size, fun _ _ h => h, fun b hb ho => ⟨E'.low b hb, ho⟩, E'.shape, fun b hb => E'.low b (Nat.lt_of_lt_of_le hb H.base), fun _ h => h⟩
      refine ⟨v, h, cv, ρ, own, rfl, ⟨rfl, rfl⟩, H.still hE' fun b hb => E'.low b hb, hE', ?_⟩
      rw [← f2]
      refine fzN_sound H' E'.grow (fun b hb => H.own b hb) (h0 := h) (fun β hβ => ?_) 5 v' cv f1 V'
      have hb := H.blk β
      cases hk : h.at β with
      | cells ro t cs =>
        rw [hk] at hb
        obtain ⟨b, n, r1, _⟩ := hb
        exact ⟨b, r1, E'.ren _ _ r1⟩
      | map => rw [hk] at hβ; cases hβ
      | dead => rw [hk] at hβ; cases hβ
    · cases hc
  · cases hc

/-! The same over the blocks alone that can be reached. -/
mutual
def names : AV → List Nat
  | .ptr β _ => [β]
  | .sl β _ _ _ => [β]
  | .map β => [β]
  | .rp cs => namesL cs
  | .row _ xs => namesLL xs
  | .fn _ a c => namesL a ++ namesL c
  | .ifc _ v => names v
  | .agg cs => namesL cs
  | .tup cs => namesL cs
  | _ => []
def namesL : List AV → List Nat
  | [] => []
  | a :: as => names a ++ namesL as
def namesLL : List (List AV) → List Nat
  | [] => []
  | a :: as => namesL a ++ namesLL as
end
def namesB : Blk → List Nat
  | .cells _ _ cs => namesL cs
  | _ => []
/-- The blocks that can be reached. -/
def reach (h : Heap) : Nat → List Nat → List Nat
  | 0, S => S
  | k + 1, S => S ++ reach h k (S.flatMap fun β => namesB (h.at β))
theorem reach_same {h h2 : Heap} : ∀ (k : Nat) (S : List Nat), (∀ β, β ∈ reach h k S → h2.at β = h.at β) → reach h2 k S = reach h k S
  | 0, _, _ => rfl
  | k + 1, S, hr => by
    unfold reach
    have e : (S.flatMap fun β => namesB (h2.at β)) = S.flatMap fun β => namesB (h.at β) := by
      have : ∀ β ∈ S, namesB (h2.at β) = namesB (h.at β) := fun β hβ => by rw [hr β (by unfold reach; exact List.mem_append.2 (.inl hβ))]
      clear hr
      induction S with
      | nil => rfl
      | cons a S ih =>
        rw [List.flatMap_cons, List.flatMap_cons, this a (by simp), ih fun β hβ => this β (by simp [hβ])]
    rw [e, reach_same k _ fun β hβ => hr β (by unfold reach; exact List.mem_append.2 (.inr hβ))]
/-- The heap of the blocks of a set, that can't be written. -/
def top (R : List Nat) : Nat := R.foldl (fun m β => bif Nat.ble m β then β + 1 else m) 0
def maskF (h : Heap) (R : List Nat) : Nat → Nat → Heap
  | 0, _ => []
  | n + 1, i => (bif R.contains i then roBlk (h.at i) else .dead) :: maskF h R n (i + 1)
def mask (h : Heap) (R : List Nat) : Heap := maskF h R (top R) 0
theorem maskF_same {h h2 : Heap} {R : List Nat} (hr : ∀ β, β ∈ R → h2.at β = h.at β) : ∀ n i, maskF h2 R n i = maskF h R n i
  | 0, _ => rfl
  | n + 1, i => by
    unfold maskF
    rw [maskF_same hr n (i + 1)]
    cases hc : R.contains i with
    | false => rfl
    | true => rw [hr i (by simpa using hc)]
theorem maskF_at {h : Heap} {R : List Nat} : ∀ n i k, (maskF h R n i).at k = .dead ∨ (maskF h R n i).at k = roBlk (h.at (i + k)) ∧ k < n ∧ (i + k) ∈ R
  | 0, _, _ => .inl rfl
  | n + 1, i, 0 => by
    unfold maskF
    cases hc : R.contains i with
    | false => exact .inl rfl
    | true => exact .inr ⟨rfl, by omega, by simpa using hc⟩
  | n + 1, i, k + 1 => by
    have e : (maskF h R (n + 1) i).at (k + 1) = (maskF h R n (i + 1)).at k := by
      show Heap.at ((bif R.contains i then roBlk (h.at i) else .dead) :: maskF h R n (i + 1)) (k + 1) = _
      rw [at_cons]
    rw [e]
    rcases maskF_at n (i + 1) k with h1 | ⟨h1, h2, h3⟩
    · exact .inl h1
    · exact .inr ⟨by rw [h1, show i + 1 + k = i + (k + 1) by omega], by omega, by rwa [show i + (k + 1) = i + 1 + k by omega]⟩
theorem maskF_length {h : Heap} {R : List Nat} : ∀ n i, (maskF h R n i).length = n
  | 0, _ => rfl
  | n + 1, i => by unfold maskF; simp [maskF_length n]

section
variable {ρ ρ' : Nat → Option Nat} {own : Nat → Prop} {w : World} {S : List Nat}
mutual
/-- A value under another naming that names its blocks alike. -/
theorem VR.ren (hρ : ∀ β, β ∈ S → ρ' β = ρ β) : ∀ (a : AV) (v : Value), (∀ β, β ∈ names a → β ∈ S) → VR ρ own w a v → VR ρ' own w a v
  | .bool _, _, _, hv | .int _ _, _, _, hv | .str _, _, _, hv | .nilp, _, _, hv | .nilm, _, _, hv | .nilf, _, _, hv | .nili, _, _, hv => hv
  | .ptr β _, _, hs, hv => by
    unfold VR at *
    rw [hρ β (hs β (by simp [names]))]
    exact hv
  | .map β, _, hs, hv => by
    unfold VR at *
    rw [hρ β (hs β (by simp [names]))]
    exact hv
  | .sl β _ _ _, _, hs, hv => by
    unfold VR at *
    rw [hρ β (hs β (by simp [names]))]
    exact hv
  | .rp cs, _, hs, hv => by
    unfold VR at *
    obtain ⟨ad, h1, h3⟩ := hv
    exact ⟨ad, h1, CR.ren hρ ad 0 cs (fun β hβ => hs β (by simpa [names] using hβ)) h3⟩
  | .row sz xs, _, hs, hv => by
    unfold VR at *
    obtain ⟨A, cap, h1, h2, h3⟩ := hv
    refine ⟨A, cap, h1, h2, fun hp => ?_⟩
    obtain ⟨ad, h4, h6⟩ := h3 hp
    exact ⟨ad, h4, RR.ren hρ ad sz _ xs (fun β hβ => hs β (by simpa [names] using hβ)) h6⟩
  | .emp _, _, _, hv => by unfold VR at *; exact hv
  | .fn _ a c, _, hs, hv => by
    unfold VR at *
    obtain ⟨a', c', h1, h2, h3⟩ := hv
    exact ⟨a', c', h1, LR.ren hρ a _ (fun β hβ => hs β (by simp [names, hβ])) h2, LR.ren hρ c _ (fun β hβ => hs β (by simp [names, hβ])) h3⟩
  | .ifc _ x, _, hs, hv => by
    unfold VR at *
    obtain ⟨y, h1, h2⟩ := hv
    exact ⟨y, h1, VR.ren hρ x _ (fun β hβ => hs β (by simpa [names] using hβ)) h2⟩
  | .agg cs, _, hs, hv => by
    unfold VR at *
    obtain ⟨c, h1, h2, h3⟩ := hv
    exact ⟨c, h1, LR.ren hρ cs _ (fun β hβ => hs β (by simpa [names] using hβ)) h2, h3⟩
  | .tup cs, _, hs, hv => by
    unfold VR at *
    obtain ⟨c, h1, h2⟩ := hv
    exact ⟨c, h1, LR.ren hρ cs _ (fun β hβ => hs β (by simpa [names] using hβ)) h2⟩
  | .any, _, _, _ => by unfold VR; trivial
theorem CR.ren (hρ : ∀ β, β ∈ S → ρ' β = ρ β) (ad : Addr) : ∀ (i : Nat) (cs : List AV), (∀ β, β ∈ namesL cs → β ∈ S) → CR ρ own w ad i cs → CR ρ' own w ad i cs
  | _, [], _, _ => by unfold CR; trivial
  | i, c :: cs, hs, hc => by
    unfold CR at *
    obtain ⟨⟨v, h1, h0, h2, h3⟩, h4⟩ := hc
    exact ⟨⟨v, h1, h0, VR.ren hρ c _ (fun β hβ => hs β (by simp [namesL, hβ])) h2, h3⟩, CR.ren hρ ad _ cs (fun β hβ => hs β (by simp [namesL, hβ])) h4⟩
theorem RR.ren (hρ : ∀ β, β ∈ S → ρ' β = ρ β) (ad : Addr) (sz : Nat) : ∀ (i : Nat) (xs : List (List AV)), (∀ β, β ∈ namesLL xs → β ∈ S) → RR ρ own w ad sz i xs → RR ρ' own w ad sz i xs
  | _, [], _, _ => by unfold RR; trivial
  | i, x :: xs, hs, hc => by
    unfold RR at *
    obtain ⟨⟨h1, h2⟩, h3⟩ := hc
    exact ⟨⟨h1, CR.ren hρ ad _ x (fun β hβ => hs β (by simp [namesLL, hβ])) h2⟩, RR.ren hρ ad sz _ xs (fun β hβ => hs β (by simp [namesLL, hβ])) h3⟩
theorem LR.ren (hρ : ∀ β, β ∈ S → ρ' β = ρ β) : ∀ (as : List AV) (vs : List Value), (∀ β, β ∈ namesL as → β ∈ S) → LR ρ own w as vs → LR ρ' own w as vs
  | [], _, _, hv => by unfold LR at *; exact hv
  | a :: as, _, hs, hv => by
    unfold LR at *
    obtain ⟨v, r, h1, h2, h3⟩ := hv
    exact ⟨v, r, h1, VR.ren hρ a _ (fun β hβ => hs β (by simp [namesL, hβ])) h2, LR.ren hρ as _ (fun β hβ => hs β (by simp [namesL, hβ])) h3⟩
end
end

theorem foldl_ge : ∀ (R : List Nat) (m : Nat), m ≤ R.foldl (fun m β => bif Nat.ble m β then β + 1 else m) m ∧ ∀ β ∈ R, β < R.foldl (fun m β => bif Nat.ble m β then β + 1 else m) m
  | [], m => ⟨Nat.le_refl _, fun β hβ => by simp at hβ⟩
  | b :: R, m => by
    rw [List.foldl_cons]
    obtain ⟨h1, h2⟩ := foldl_ge R (bif Nat.ble m b then b + 1 else m)
    have : m ≤ (bif Nat.ble m b then b + 1 else m) ∧ b < (bif Nat.ble m b then b + 1 else m) := by
      cases hb : Nat.ble m b with
      | true => simp at hb ⊢; omega
      | false =>
        have : ¬ m ≤ b := fun h => by rw [Nat.ble_eq_true_of_le h] at hb; cases hb
        simp; omega
    exact ⟨by omega, fun β hβ => by
      rcases List.mem_cons.1 hβ with rfl | hβ
      · omega
      · exact h2 β hβ⟩
theorem top_lt {R : List Nat} {β : Nat} (h : β ∈ R) : β < top R := (foldl_ge R 0).2 β h
def closedB (h : Heap) (R : List Nat) : Bool := R.all fun β => (namesB (h.at β)).all R.contains
def renM (ρ : Nat → Option Nat) (n : Nat) : Nat → Option Nat := fun β => if β < n then ρ β else none
theorem reach_start {h : Heap} : ∀ (k : Nat) (S : List Nat) (β : Nat), β ∈ S → β ∈ reach h k S
  | 0, _, _, h => h
  | k + 1, S, β, h => by unfold reach; exact List.mem_append.2 (.inl h)
theorem mask_hr {B : Nat} {ρ : Nat → Option Nat} {own : Nat → Prop} {w : World} {h : Heap} {R : List Nat} (H : HR B ρ own w h) (hc : closedB h R = true) : HR w.heap.size (renM ρ (top R)) own w (mask h R) := by
  have hren : ∀ β, β ∈ R → renM ρ (top R) β = ρ β := fun β hβ => by unfold renM; rw [if_pos (top_lt hβ)]
  have at_ : ∀ β, (mask h R).at β = .dead ∨ (mask h R).at β = roBlk (h.at β) ∧ β ∈ R := fun β => by
    rcases maskF_at (h := h) (R := R) (top R) 0 β with h1 | ⟨h1, _, h3⟩
    · exact .inl h1
    · rw [Nat.zero_add] at h1 h3; exact .inr ⟨h1, h3⟩
  have notlive : ∀ β, ¬ ((mask h R).at β).live := by
    intro β hl
    rcases at_ β with h1 | ⟨h1, _⟩ <;> rw [h1] at hl
    · exact hl
    · cases hk : h.at β <;> rw [hk] at hl
      · cases hl
      · exact hl
      · exact hl
  refine ⟨fun β => ?_, fun β hβ => ?_, fun β β' b l => (notlive β l).elim, fun β b hr hro => ?_, H.own, fun β b l => (notlive β l).elim, Nat.le_refl _⟩
  · rcases at_ β with h1 | ⟨h1, hβ⟩ <;> rw [h1]
    · trivial
    · have hb := H.blk β
      have hcl := List.all_eq_true.1 hc β hβ
      cases hk : h.at β with
      | cells ro t cs =>
        rw [hk] at hb hcl
        obtain ⟨b, n, h1, h2, h3, h4, _, _⟩ := hb
        refine ⟨b, n, by rw [hren β hβ]; exact h1, h2, h3, fun i x hx => ?_, (fun e => by cases e), trivial⟩
        obtain ⟨v, k1, k2, k3⟩ := h4 i x hx
        have hnx : ∀ γ, γ ∈ names x → γ ∈ R := by
          intro γ hγ
          have hin : γ ∈ namesL cs := by
            have hm := List.mem_of_getElem? hx
            clear hcl k1 k2 k3 hx h4 h3 h2 h1 hk
            induction cs with
            | nil => simp at hm
            | cons c cs ih =>
              rcases List.mem_cons.1 hm with rfl | hm
              · simp [namesL, hγ]
              · simp [namesL, ih hm]
          have := List.all_eq_true.1 hcl γ hin
          simpa using this
        exact ⟨v, k1, VR.ren hren x v hnx k2, k3⟩
      | map => trivial
      | dead => trivial
  · unfold renM
    rw [if_neg]
    have : (mask h R).length = top R := maskF_length _ _
    omega
  · right
    rcases at_ β with h1 | ⟨h1, hβ⟩ <;> rw [h1] at hro
    · exact hro.elim
    · have hb := H.blk β
      rw [hren β hβ] at hr
      cases hk : h.at β with
      | cells ro t cs =>
        rw [hk] at hb
        obtain ⟨b', n, h1, h2, _⟩ := hb
        rw [h1] at hr
        cases hr
        exact shape_lt h2
      | map => rw [hk] at hro; exact hro.elim
      | dead => rw [hk] at hro; exact hro.elim

def runR (E : Env) (N d : Nat) : FuncId → List AV → Heap → Option (List Nat × Bool × AV) := fun f args h => match E.fns f with
  | some fn => cond (closedB h (reach h 4 (namesL args))) (match fH (α := AV) (mask h (reach h 4 (namesL args))) (fun h1 => xFn (α := AV) E (xInl E N d) N fn args h1 (fun v h' => cond (fzNB (mask h (reach h 4 (namesL args))) h' (top (reach h 4 (namesL args))) 5 v) (fV (fzN h' (top (reach h 4 (namesL args))) 5 v) some) none)) with
    | some v => some (reach h 4 (namesL args), true, v)
    | none => none) none
  | none => none
theorem runR_ok {P : Program} {E : Env} (hE : EnvOk P E) (N d : Nat) : CrOk P (runR E N d) := by
  refine ⟨fun f args h R v hc => ?_, fun f args h h2 R c v hc hr => ?_⟩
  · unfold runR at hc
    split at hc
    · rename_i fn hf
      rw [fH_eq] at hc
      cases hcl : closedB h (reach h 4 (namesL args)) with
      | false => rw [hcl] at hc; cases hc
      | true =>
        rw [hcl] at hc
        simp only [cond_true] at hc
        split at hc
        · rename_i v0 hx
          simp only [Option.some.injEq, Prod.mk.injEq, true_and] at hc
          obtain ⟨hR, hv⟩ := hc
          subst hv
          rw [hR] at hx hcl
          obtain ⟨k1, k2⟩ := hE.fns f fn hf
          have hk := xFn_ok (xInl_ok (E := E) (N := N) d) hx (K' := fun v' h' => fzNB (mask h R) h' (top R) 5 v' = true ∧ fzN h' (top R) 5 v' = v0) fun v' h' he => by
            cases hb : fzNB (mask h R) h' (top R) 5 v' with
            | false => rw [hb] at he; cases he
            | true => rw [hb] at he; exact ⟨rfl, by simpa [fV_eq] using he⟩
          obtain ⟨h1, h2⟩ := awpFn_sound hE (inl_ok hE d) k1 k2 hk
          refine ⟨h1, fun B ρ own w cargs H hl => ?_⟩
          have hren : ∀ β, β ∈ R → renM ρ (top R) β = ρ β := fun β hβ => by unfold renM; rw [if_pos (top_lt hβ)]
          have hl' := LR.ren hren args _ (fun β hβ => by rw [← hR]; exact reach_start 4 _ β hβ) hl
          refine (h2 w.heap.size (renM ρ (top R)) own w cargs (mask_hr H hcl) hl').mono ?_
          rintro e w' ⟨v', h', cv, ρ', own', rfl, ⟨f1, f2⟩, H', E', V'⟩
          have hE' : Ext B ρ own w ρ own w' := ⟨E'.os, E'.tape, E'.output, E'.size, fun _ _ h => h, fun b hb ho => ⟨E'.low b hb, ho⟩, E'.shape, fun b hb => E'.low b (Nat.lt_of_lt_of_le hb H.base), fun _ h => h⟩
          refine ⟨v0, h, cv, ρ, own, rfl, ⟨rfl, rfl⟩, H.still hE' fun b hb => E'.low b hb, hE', ?_⟩
          rw [← f2]
          refine fzN_sound H' E'.grow (fun b hb => H.own b hb) (h0 := mask h R) (fun β hβ => ?_) 5 v' cv f1 V'
          rcases maskF_at (h := h) (R := R) (top R) 0 β with q1 | ⟨q1, q2, q3⟩
          · have : (mask h R).at β = .dead := q1
            rw [this] at hβ
            cases hβ
          · rw [Nat.zero_add] at q1 q3
            have q1' : (mask h R).at β = roBlk (h.at β) := q1
            rw [q1'] at hβ
            have hb := H.blk β
            cases hk : h.at β with
            | cells ro t cs =>
              rw [hk] at hb
              obtain ⟨b, n, r1, _⟩ := hb
              exact ⟨b, r1, E'.ren _ _ (by rw [hren β q3]; exact r1)⟩
            | map => rw [hk] at hβ; cases hβ
            | dead => rw [hk] at hβ; cases hβ
        · cases hc
    · cases hc
  · have hRR : R = reach h 4 (namesL args) := by
      unfold runR at hc
      split at hc
      · cases hcl : closedB h (reach h 4 (namesL args)) with
        | false => rw [hcl] at hc; cases hc
        | true =>
          rw [hcl] at hc
          simp only [cond_true] at hc
          split at hc
          · simp only [Option.some.injEq, Prod.mk.injEq] at hc; exact hc.1.symm
          · cases hc
      · cases hc
    have e1 : reach h2 4 (namesL args) = reach h 4 (namesL args) := reach_same 4 _ (by rw [← hRR]; exact hr)
    have e2 : closedB h2 R = closedB h R := by
      unfold closedB
      rw [Bool.eq_iff_iff, List.all_eq_true, List.all_eq_true]
      exact ⟨fun hh β hβ => by rw [← hr β hβ]; exact hh β hβ, fun hh β hβ => by rw [hr β hβ]; exact hh β hβ⟩
    have e3 : mask h2 R = mask h R := maskF_same hr _ _
    rw [← hc]
    unfold runR
    rw [e1, ← hRR, e2, e3]
def noR : FuncId → List AV → Heap → Option (List Nat × Bool × AV) := fun _ _ _ => none
theorem noR_ok {P : Program} : CrOk P noR := ⟨fun _ _ _ _ _ h => (by cases h), fun _ _ _ _ _ _ _ h => (by cases h)⟩

def liftR (C : FuncId → List AV → Heap → Option (List Nat × Bool × AV)) : Contracts := fun f args h => (C f args h).map fun p => ⟨p.2.1, p.2.2, h, []⟩
theorem liftR_ok {P : Program} {C : FuncId → List AV → Heap → Option (List Nat × Bool × AV)} (hC : CrOk P C) : CtrOk P (liftR C) := by
  intro f args h ans hc hok
  unfold liftR at hc
  simp only [Option.map_eq_some_iff] at hc
  obtain ⟨⟨R, ok, v⟩, h1, rfl⟩ := hc
  simp only at hok
  subst hok
  obtain ⟨k1, k2⟩ := hC.run f args h R v h1
  exact ⟨k1, fun _ _ => rfl, fun B ρ own w cargs H hl => k2 B ρ own w cargs H hl⟩
def butR (q : FuncId → Bool) (C : FuncId → List AV → Heap → Option (List Nat × Bool × AV)) : FuncId → List AV → Heap → Option (List Nat × Bool × AV) := fun f args h => cond (q f) none (C f args h)
theorem butR_ok {P : Program} {q : FuncId → Bool} {C : FuncId → List AV → Heap → Option (List Nat × Bool × AV)} (hC : CrOk P C) : CrOk P (butR q C) := by
  refine ⟨fun f args h R v hc => ?_, fun f args h h2 R c v hc hr => ?_⟩ <;> unfold butR at hc <;> cases hq : q f <;> rw [hq] at hc
  · exact hC.run f args h R v hc
  · cases hc
  · unfold butR; rw [hq]; exact hC.same f args h h2 R c v hc hr
  · cases hc
/-- The machine of concrete runs: calls of what names no block are run apart (but those of 'q'), such as only read leave the heap, others run where they stand. -/
def runF (E : Env) (q : FuncId → Bool) (N : Nat) : Nat → Env
  | 0 => E
  | k + 1 => { E with
      Cp := orP E.Cp (butP q (runP (runF E q N k) N 0)),
      Cr := butR q (runR (runF E q N k) N 0),
      C := orC (orC E.C (liftP (orP E.Cp (butP q (runP (runF E q N k) N 0))))) (orC (liftR (butR q (runR (runF E q N k) N 0))) (runH (runF E q N k) N 0)) }
theorem runF_ok {P : Program} {E : Env} (hE : EnvOk P E) (q : FuncId → Bool) (N : Nat) : ∀ k, EnvOk P (runF E q N k)
  | 0 => hE
  | k + 1 => ⟨butR_ok (runR_ok (runF_ok hE q N k) N 0), orP_ok hE.Cp (butP_ok (runP_ok (runF_ok hE q N k) N 0)), hE.ty, hE.eq,
      orC_ok (orC_ok hE.C (liftP_ok (orP_ok hE.Cp (butP_ok (runP_ok (runF_ok hE q N k) N 0))))) (orC_ok (liftR_ok (butR_ok (runR_ok (runF_ok hE q N k) N 0))) (runH_ok (runF_ok hE q N k) N 0)), hE.fns, hE.mixed⟩
end Go.Abs
