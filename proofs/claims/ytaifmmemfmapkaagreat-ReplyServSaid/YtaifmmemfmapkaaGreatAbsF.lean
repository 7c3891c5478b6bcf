import Derived.Test.YtaifmmemfmapkaaGreatAbsEc
set_option linter.unusedVariables false
set_option linter.unusedSimpArgs false
namespace Go.Abs
open Go.RowKit

mutual
/-- The first, apart from the heap, is what the second is in the heap h. -/
def FinQ (Q : Nat → Bool) (h : Heap) : AV → AV → Prop
  | .bool b, a => match a with
    | .bool b' => b' = b
    | _ => False
  | .int k n, a => match a with
    | .int k' n' => k' = k ∧ n' = n
    | _ => False
  | .str s, a => match a with
    | .str s' => s' = s
    | _ => False
  | .tup l, a => match a with
    | .tup l' => FinLQ Q h l l'
    | _ => False
  | .agg l, a => match a with
    | .agg l' => FinLQ Q h l l'
    | _ => False
  | .row sz xs, a => match a with
    | .sl β sz' off len => cond (Q β) (sz' = sz ∧ len = xs.length ∧ (match h.at β with
      | .cells false _ cs => off + len * sz ≤ cs.length ∧ FinRQ Q h sz xs (cs.drop off)
      | _ => False)) False
    | .row sz' xs' => sz' = sz ∧ xs' = xs ∧ Solidss xs
    | _ => False
  | v, a => a = v ∧ Solid v
def FinLQ (Q : Nat → Bool) (h : Heap) : List AV → List AV → Prop
  | [], bs => bs = []
  | a :: as, bs => ∃ b r, bs = b :: r ∧ FinQ Q h a b ∧ FinLQ Q h as r
def FinRQ (Q : Nat → Bool) (h : Heap) (sz : Nat) : List (List AV) → List AV → Prop
  | [], _ => True
  | x :: xs, cs => x.length = sz ∧ FinLQ Q h x (cs.take sz) ∧ FinRQ Q h sz xs (cs.drop sz)
end

/-- The same over lists, unfolded from the head. -/
theorem finL_cons {Q : Nat → Bool} {h : Heap} {a b : AV} {as r : List AV} (h1 : FinQ Q h a b) (h2 : FinLQ Q h as r) : FinLQ Q h (a :: as) (b :: r) := by unfold FinLQ; exact ⟨b, r, rfl, h1, h2⟩
theorem finL_nil {Q : Nat → Bool} {h : Heap} : FinLQ Q h [] [] := by unfold FinLQ; rfl

mutual
theorem FinQ.solid {Q : Nat → Bool} {h : Heap} : ∀ (a : AV), Solid a → FinQ Q h a a
  | .ptr _ _, hs | .sl _ _ _ _, hs | .map _, hs => by unfold Solid at hs; exact hs.elim
  | .bool _, _ | .str _, _ => by unfold FinQ; rfl
  | .int _ _, _ => by unfold FinQ; exact ⟨rfl, rfl⟩
  | .tup l, hs | .agg l, hs => by unfold Solid at hs; unfold FinQ; exact FinLQ.solid l hs
  | .row sz xs, hs => by unfold Solid at hs; unfold FinQ; exact ⟨rfl, rfl, hs⟩
  | .nilp, hs | .nilm, hs | .nilf, hs | .nili, hs | .rp _, hs | .emp _, hs | .fn _ _ _, hs | .ifc _ _, hs | .any, hs => by unfold FinQ; exact ⟨rfl, hs⟩
theorem FinLQ.solid {Q : Nat → Bool} {h : Heap} : ∀ (l : List AV), Solids l → FinLQ Q h l l
  | [], _ => finL_nil
  | a :: as, hs => by unfold Solids at hs; exact finL_cons (FinQ.solid a hs.1) (FinLQ.solid as hs.2)
end
theorem FinRQ.solid {Q : Nat → Bool} {h : Heap} {sz : Nat} : ∀ (xs : List (List AV)) (cs : List AV), Solidss xs → (∀ x ∈ xs, x.length = sz) → FinRQ Q h sz xs (xs.flatten ++ cs)
  | [], _, _, _ => by unfold FinRQ; trivial
  | x :: xs, cs, hs, hl => by
    unfold Solidss at hs
    have hx := hl x (by simp)
    unfold FinRQ
    refine ⟨hx, ?_, ?_⟩
    · have : ((x :: xs).flatten ++ cs).take sz = x := by
        rw [List.flatten_cons, List.append_assoc, List.take_append_of_le_length (by omega), ← hx, List.take_length]
      rw [this]
      exact FinLQ.solid x hs.1
    · have : ((x :: xs).flatten ++ cs).drop sz = xs.flatten ++ cs := by
        rw [List.flatten_cons, List.append_assoc, ← hx, List.drop_left]
      rw [this]
      exact FinRQ.solid xs cs hs.2 fun y hy => hl y (by simp [hy])

section
variable {B : Nat} {ρ ρ' : Nat → Option Nat} {own own' : Nat → Prop} {w : World} {h : Heap} {Q : Nat → Bool}
theorem LR.of_list : ∀ {as : List AV} {vs : List Value}, as.length = vs.length → (∀ (i : Nat) (a : AV), as[i]? = some a → ∃ v, vs[i]? = some v ∧ VR ρ own w a v) → LR ρ own w as vs := LR.of

theorem finL_length : ∀ {as bs : List AV}, FinLQ Q h as bs → as.length = bs.length
  | [], bs, hf => by unfold FinLQ at hf; subst hf; rfl
  | a :: as, bs, hf => by
    unfold FinLQ at hf
    obtain ⟨b, r, rfl, _, h2⟩ := hf
    simp [finL_length h2]

mutual
theorem fin_sound (H : HR B ρ own w h) (ho : ∀ b, own' b → own b) (hB : ∀ β b, Q β = true → (h.at β).live → ρ β = some b → ¬ own' b) : ∀ (v a : AV) (cv : Value), FinQ Q h v a → VR ρ own w a cv → VR ρ' own' w v cv
  | .bool b, a, cv, hf, hv => by
    unfold FinQ at hf
    split at hf
    · subst hf; exact VR.solid ho _ _ (by unfold Solid; trivial) hv
    · exact hf.elim
  | .int k n, a, cv, hf, hv => by
    unfold FinQ at hf
    split at hf
    · obtain ⟨rfl, rfl⟩ := hf; exact VR.solid ho _ _ (by unfold Solid; trivial) hv
    · exact hf.elim
  | .str s, a, cv, hf, hv => by
    unfold FinQ at hf
    split at hf
    · subst hf; exact VR.solid ho _ _ (by unfold Solid; trivial) hv
    · exact hf.elim
  | .tup l, a, cv, hf, hv => by
    unfold FinQ at hf
    split at hf
    · unfold VR at hv ⊢
      obtain ⟨c, rfl, hl⟩ := hv
      exact ⟨c, rfl, finL_sound H ho hB _ _ _ hf hl⟩
    · exact hf.elim
  | .agg l, a, cv, hf, hv => by
    unfold FinQ at hf
    split at hf
    · unfold VR at hv ⊢
      obtain ⟨c, rfl, hl, h1⟩ := hv
      exact ⟨c, rfl, finL_sound H ho hB _ _ _ hf hl, h1⟩
    · exact hf.elim
  | .row sz xs, a, cv, hf, hv => by
    unfold FinQ at hf
    split at hf
    · rename_i β sz' off len
      cases hQ : Q β with
      | false => rw [hQ] at hf; exact hf.elim
      | true =>
      rw [hQ] at hf
      simp only [cond_true] at hf
      obtain ⟨rfl, rfl, hf⟩ := hf
      split at hf
      · rename_i t cs hβ
        obtain ⟨hle, hr⟩ := hf
        unfold VR at hv
        obtain ⟨b, A, cap, t', n, r1, rfl, hlc, hA, hsh, hn⟩ := hv
        have hbr := H.blk β
        rw [hβ] at hbr
        obtain ⟨b', n', r2, sh2, hcn, hcell, hro1, hro2⟩ := hbr
        rw [r1] at r2
        cases r2
        have hnb : ¬ own' b := hB β b hQ (by rw [hβ]; rfl) r1
        have hcs : ∀ (j : Nat) (x : AV), (cs.drop off)[j]? = some x → ∃ v, w.cell? ((⟨b, off, none⟩ : Addr).add j) = some v ∧ VR ρ own w x v ∧ v.oneCell' = true := by
          intro j x hx
          rw [List.getElem?_drop] at hx
          obtain ⟨v, v1, v2, v3⟩ := hcell _ _ hx
          exact ⟨v, by rw [add_off]; exact v1, v2, v3⟩
        unfold VR
        refine ⟨A, cap, rfl, hlc, fun hp => ?_⟩
        refine ⟨⟨b, off, none⟩, hA (by omega), ?_⟩
        refine finR_sound H ho hB sz' xs 0 (cs.drop off) ⟨b, off, none⟩ hnb (fun j x hx => ?_) hr
        simpa using hcs j x hx
      · exact hf.elim
    · obtain ⟨rfl, rfl, hs⟩ := hf
      exact VR.solid ho _ _ (by unfold Solid; exact hs) hv
    · exact hf.elim
  | .nilp, a, cv, hf, hv | .nilm, a, cv, hf, hv | .nilf, a, cv, hf, hv | .nili, a, cv, hf, hv | .rp _, a, cv, hf, hv | .emp _, a, cv, hf, hv | .fn _ _ _, a, cv, hf, hv | .ifc _ _, a, cv, hf, hv | .any, a, cv, hf, hv
  | .ptr _ _, a, cv, hf, hv | .sl _ _ _ _, a, cv, hf, hv | .map _, a, cv, hf, hv => by
    unfold FinQ at hf
    obtain ⟨rfl, hs⟩ := hf
    exact VR.solid ho _ _ hs hv
theorem finL_sound (H : HR B ρ own w h) (ho : ∀ b, own' b → own b) (hB : ∀ β b, Q β = true → (h.at β).live → ρ β = some b → ¬ own' b) : ∀ (l as : List AV) (vs : List Value), FinLQ Q h l as → LR ρ own w as vs → LR ρ' own' w l vs
  | [], as, vs, hf, hl => by
    unfold FinLQ at hf
    subst hf
    unfold LR at *
    exact hl
  | x :: l, as, vs, hf, hl => by
    unfold FinLQ at hf
    obtain ⟨b, r, rfl, h1, h2⟩ := hf
    unfold LR at *
    obtain ⟨v, r', e, k1, k2⟩ := hl
    exact ⟨v, r', e, fin_sound H ho hB x b v h1 k1, finL_sound H ho hB l r r' h2 k2⟩
theorem finC_sound (H : HR B ρ own w h) (ho : ∀ b, own' b → own b) (hB : ∀ β b, Q β = true → (h.at β).live → ρ β = some b → ¬ own' b) : ∀ (l : List AV) (i : Nat) (as : List AV) (ad : Addr), ¬ own' ad.block →
    (∀ (j : Nat) (x : AV), as[j]? = some x → ∃ v, w.cell? (ad.add (i + j)) = some v ∧ VR ρ own w x v ∧ v.oneCell' = true) → FinLQ Q h l as → CR ρ' own' w ad i l
  | [], i, as, ad, hn, hc, hf => by unfold CR; trivial
  | x :: l, i, as, ad, hn, hc, hf => by
    unfold FinLQ at hf
    obtain ⟨b, r, rfl, h1, h2⟩ := hf
    unfold CR
    obtain ⟨v, v1, v2, v3⟩ := hc 0 b rfl
    refine ⟨⟨v, by simpa using v1, hn, fin_sound H ho hB x b v h1 v2, v3⟩, finC_sound H ho hB l (i + 1) r ad hn (fun j y hy => ?_) h2⟩
    have := hc (j + 1) y (by simpa using hy)
    rwa [show i + (j + 1) = i + 1 + j by omega] at this
theorem finR_sound (H : HR B ρ own w h) (ho : ∀ b, own' b → own b) (hB : ∀ β b, Q β = true → (h.at β).live → ρ β = some b → ¬ own' b) (sz : Nat) : ∀ (xs : List (List AV)) (i : Nat) (cs : List AV) (ad : Addr), ¬ own' ad.block →
    (∀ (j : Nat) (x : AV), cs[j]? = some x → ∃ v, w.cell? (ad.add (i * sz + j)) = some v ∧ VR ρ own w x v ∧ v.oneCell' = true) → FinRQ Q h sz xs cs → RR ρ' own' w ad sz i xs
  | [], i, cs, ad, hn, hc, hf => by unfold RR; trivial
  | x :: xs, i, cs, ad, hn, hc, hf => by
    unfold FinRQ at hf
    obtain ⟨h0, h1, h2⟩ := hf
    unfold RR
    refine ⟨⟨h0, finC_sound H ho hB x (i * sz) (cs.take sz) ad hn (fun j y hy => ?_) h1⟩, finR_sound H ho hB sz xs (i + 1) (cs.drop sz) ad hn (fun j y hy => ?_) h2⟩
    · rw [List.getElem?_take] at hy
      split at hy
      · exact hc j y hy
      · cases hy
    · rw [List.getElem?_drop] at hy
      have := hc _ y hy
      rwa [show i * sz + (sz + j) = (i + 1) * sz + j by rw [Nat.add_mul, Nat.one_mul]; omega] at this
end
end

abbrev FinV (h : Heap) : AV → AV → Prop := FinQ (fun _ => true) h
abbrev FinL (h : Heap) : List AV → List AV → Prop := FinLQ (fun _ => true) h
abbrev FinR (h : Heap) (sz : Nat) : List (List AV) → List AV → Prop := FinRQ (fun _ => true) h sz
theorem FinR.solid {h : Heap} {sz : Nat} (xs : List (List AV)) (cs : List AV) (hs : Solidss xs) (hl : ∀ x ∈ xs, x.length = sz) : FinR h sz xs (xs.flatten ++ cs) := FinRQ.solid xs cs hs hl
theorem FinL.solid {h : Heap} (l : List AV) (hs : Solids l) : FinL h l l := FinLQ.solid l hs
theorem FinV.solid {h : Heap} (a : AV) (hs : Solid a) : FinV h a a := FinQ.solid a hs
theorem finRQ_any {Q : Nat → Bool} {h' : Heap} {sz : Nat} {xs : List (List AV)} {cs : List AV} (hs : Solidss xs) (hl : ∀ x ∈ xs, x.length = sz) (e : cs = xs.flatten) : FinRQ Q h' sz xs cs := by
  have := FinRQ.solid (Q := Q) (h := h') xs [] hs hl
  rw [List.append_nil] at this
  rw [e]; exact this
end Go.Abs
