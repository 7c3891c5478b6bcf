import Derived.Test.YtaifmmemfmapkaaGreatAbsEc
set_option linter.unusedVariables false
set_option linter.unusedSimpArgs false
namespace Go.Abs
open Go.RowKit

/-! The machine is deterministic: what is reached once is reached always. -/
def GenDet (G : Gen) : Prop := ∀ f args h K, G f args h K → ∃ v h', K v h' ∧ ∀ K' : AV → Heap → Prop, K' v h' → G f args h K'

section
variable {E : Env} {G : Gen}

theorem cond_false_elim {c : Bool} {A : Prop} (h : cond c A False) : c = true ∧ A := by
  cases c
  · exact h.elim
  · exact ⟨rfl, h⟩

theorem doOp_det (hG : GenDet G) {o : Oper} {t : Nat → AV} {h : Heap} {K : Kont} (hk : doOp E G o t h K) :
    ∃ t' h', K t' h' ∧ ∀ K' : Kont, K' t' h' → doOp E G o t h K' := by
  unfold doOp at hk ⊢
  split at hk
  · rename_i c v hp
    obtain ⟨rfl, hk⟩ := cond_false_elim hk
    rw [withV_eq] at hk
    exact ⟨_, _, hk, fun K' hK' => by simp only [hp, cond_true, withV_eq]; exact hK'⟩
  · rename_i hp
    try simp only [hp]
    split at hk
    · rename_i q c v hl
      obtain ⟨rfl, hk⟩ := cond_false_elim hk
      rw [withV_eq] at hk
      exact ⟨_, _, hk, fun K' hK' => by simp only [hl, cond_true, withV_eq]; exact hK'⟩
    · rename_i hl
      try simp only [hl]
      split at hk
      · rename_i a ha
        obtain ⟨ho, hk⟩ := cond_false_elim hk
        rw [withV_eq, withH_eq] at hk
        exact ⟨_, _, hk, fun K' hK' => by simp only [ha, ho, cond_true, withV_eq, withH_eq]; exact hK'⟩
      · rename_i ha
        try simp only [ha]
        split at hk
        · rename_i f args ats hop
          split at hk
          · rename_i l hl'
            split at hk
            · rename_i k l' hc
              obtain ⟨v, h', k1, k2⟩ := hG _ _ _ _ hk
              rw [withV_eq, withH_eq] at k1
              refine ⟨_, _, k1, fun K' hK' => ?_⟩
              try simp only [hop, hl', hc]
              refine k2 _ ?_
              rw [withV_eq, withH_eq]
              exact hK'
            · exact hk.elim
          · exact hk.elim
        · exact hk.elim

theorem awpOps_det (hG : GenDet G) {ops : Array Oper} : ∀ {l : List Oper} {t : Nat → AV} {h : Heap} {K : Kont}, awpOps E G ops l t h K →
    ∃ t' h', K t' h' ∧ ∀ K' : Kont, K' t' h' → awpOps E G ops l t h K'
  | [], t, h, K, hk => ⟨t, h, hk, fun K' hK' => hK'⟩
  | o :: rest, t, h, K, hk => by
    have run : ∀ t, doOp E G o t h (fun t h => awpOps E G ops rest t h K) → ∃ t' h', K t' h' ∧ ∀ K' : Kont, K' t' h' → doOp E G o t h (fun t h => awpOps E G ops rest t h K') := by
      intro t hk
      obtain ⟨t1, h1, k1, k2⟩ := doOp_det hG hk
      obtain ⟨t2, h2, k3, k4⟩ := awpOps_det hG k1
      exact ⟨t2, h2, k3, fun K' hK' => k2 _ (k4 _ hK')⟩
    unfold awpOps at hk ⊢
    split at hk
    · rename_i hg
      try simp only [hg]
      exact run _ hk
    · rename_i j want hg
      try simp only [hg]
      split at hk
      · exact hk.elim
      · rename_i d hd
        try simp only [hd]
        split at hk
        · rename_i b hb
          try simp only [hb]
          cases b <;> cases want <;> simp only [cond_true, cond_false] at hk ⊢
          · exact run _ hk
          · exact awpOps_det hG hk
          · exact awpOps_det hG hk
          · exact run _ hk
        · rename_i hb
          try simp only [hb]
          exact awpOps_det hG hk
        · exact hk.elim

theorem doOpD_det {i : Nat} {o : Oper} {t : Nat → AV} {h : Heap} {L : List Log} {K : (Nat → AV) → Heap → List Log → Prop} (hk : doOpD E i o t h L K) :
    ∃ t' h' L', K t' h' L' ∧ ∀ K' : (Nat → AV) → Heap → List Log → Prop, K' t' h' L' → doOpD E i o t h L K' := by
  unfold doOpD at hk ⊢
  split at hk
  · rename_i c v hp
    obtain ⟨rfl, hk⟩ := cond_false_elim hk
    rw [withV_eq] at hk
    exact ⟨_, _, _, hk, fun K' hK' => by simp only [hp, cond_true, withV_eq]; exact hK'⟩
  · rename_i hp
    try simp only [hp]
    split at hk
    · rename_i c v hl
      obtain ⟨rfl, hk⟩ := cond_false_elim hk
      rw [withV_eq] at hk
      exact ⟨_, _, _, hk, fun K' hK' => by simp only [hl, cond_true, withV_eq]; exact hK'⟩
    · rename_i β c v hl
      obtain ⟨rfl, hk⟩ := cond_false_elim hk
      rw [withV_eq] at hk
      exact ⟨_, _, _, hk, fun K' hK' => by simp only [hl, cond_true, withV_eq]; exact hK'⟩
    · rename_i hl
      try simp only [hl]
      split at hk
      · rename_i a ha
        obtain ⟨ho, hk⟩ := cond_false_elim hk
        rw [withV_eq, withH_eq] at hk
        exact ⟨_, _, _, hk, fun K' hK' => by simp only [ha, ho, cond_true, withV_eq, withH_eq]; exact hK'⟩
      · rename_i ha
        try simp only [ha]
        split at hk
        · rename_i f args ats hop
          split at hk
          · rename_i l hl'
            split at hk
            · rename_i k l' hc
              split at hk
              · rename_i c v hcp
                obtain ⟨rfl, hk⟩ := cond_false_elim hk
                rw [withV_eq] at hk
                exact ⟨_, _, _, hk, fun K' hK' => by simp only [hop, hl', hc, hcp, cond_true, withV_eq]; exact hK'⟩
              · rename_i hcp
                split at hk
                · rename_i R c v hcr
                  obtain ⟨rfl, hk⟩ := cond_false_elim hk
                  rw [withV_eq] at hk
                  exact ⟨_, _, _, hk, fun K' hK' => by simp only [hop, hl', hc, hcp, hcr, cond_true, withV_eq]; exact hK'⟩
                · rename_i hcr
                  split at hk
                  · rename_i a hca
                    obtain ⟨ho, hk⟩ := cond_false_elim hk
                    rw [withV_eq, withH_eq] at hk
                    exact ⟨_, _, _, hk, fun K' hK' => by simp only [hop, hl', hc, hcp, hcr, hca, ho, cond_true, withV_eq, withH_eq]; exact hK'⟩
                  · exact hk.elim
            · exact hk.elim
          · exact hk.elim
        · exact hk.elim

theorem awpOpsD_det {ops : Array Oper} : ∀ {l : List Oper} {i : Nat} {t : Nat → AV} {h : Heap} {L : List Log} {K : Kont}, awpOpsD E ops l i t h L K →
    ∃ t' h', K t' h' ∧ ∀ K' : Kont, K' t' h' → awpOpsD E ops l i t h L K'
  | [], i, t, h, L, K, hk => by
    unfold awpOpsD at hk ⊢
    obtain ⟨hc, hk⟩ := cond_false_elim hk
    exact ⟨t, h, hk, fun K' hK' => by simp only [hc, cond_true]; exact hK'⟩
  | o :: rest, i, t, h, L, K, hk => by
    have run : ∀ t, doOpD E i o t h L (fun t h L => awpOpsD E ops rest (i + 1) t h L K) → ∃ t' h', K t' h' ∧ ∀ K' : Kont, K' t' h' → doOpD E i o t h L (fun t h L => awpOpsD E ops rest (i + 1) t h L K') := by
      intro t hk
      obtain ⟨t1, h1, L1, k1, k2⟩ := doOpD_det hk
      obtain ⟨t2, h2, k3, k4⟩ := awpOpsD_det k1
      exact ⟨t2, h2, k3, fun K' hK' => k2 _ (k4 _ hK')⟩
    unfold awpOpsD at hk ⊢
    split at hk
    · rename_i hg
      try simp only [hg]
      exact run _ hk
    · rename_i j want hg
      try simp only [hg]
      split at hk
      · exact hk.elim
      · rename_i d hd
        try simp only [hd]
        split at hk
        · rename_i b hb
          try simp only [hb]
          cases b <;> cases want <;> simp only [cond_true, cond_false] at hk ⊢
          · exact run _ hk
          · exact awpOpsD_det hk
          · exact awpOpsD_det hk
          · exact run _ hk
        · rename_i hb
          try simp only [hb]
          exact awpOpsD_det hk
        · exact hk.elim

theorem rounds_det {body : (Nat → AV) → Heap → KontE → Prop} (hb : ∀ t h K, body t h K → ∃ e t' h', K e t' h' ∧ ∀ K' : KontE, K' e t' h' → body t h K') :
    ∀ {n : Nat} {t : Nat → AV} {h : Heap} {K : KontE}, rounds body K n t h → ∃ e t' h', K e t' h' ∧ ∀ K' : KontE, K' e t' h' → rounds body K' n t h
  | 0, t, h, K, hk => by unfold rounds at hk; exact hk.elim
  | n + 1, t, h, K, hk => by
    unfold rounds at hk ⊢
    obtain ⟨e, t1, h1, k1, k2⟩ := hb _ _ _ hk
    cases e with
    | normal =>
      obtain ⟨e, t2, h2, k3, k4⟩ := rounds_det hb k1
      exact ⟨e, t2, h2, k3, fun K' hK' => k2 _ (k4 _ hK')⟩
    | exit id => exact ⟨_, t1, h1, k1, fun K' hK' => k2 _ hK'⟩
    | ret => exact ⟨_, t1, h1, k1, fun K' hK' => k2 _ hK'⟩

theorem awp_det (hG : GenDet G) : ∀ (c : Code) {t : Nat → AV} {h : Heap} {K : KontE}, awp E G c t h K → ∃ e t' h', K e t' h' ∧ ∀ K' : KontE, K' e t' h' → awp E G c t h K' := by
  intro c
  induction c with
  | skip => intro t h K hk; exact ⟨_, t, h, hk, fun K' hK' => hK'⟩
  | label _ => intro t h K hk; exact ⟨_, t, h, hk, fun K' hK' => hK'⟩
  | region a ops draw =>
    intro t h K hk
    simp only [awp] at hk ⊢
    cases draw with
    | true =>
      obtain ⟨t', h', k1, k2⟩ := awpOpsD_det hk
      exact ⟨_, t', h', k1, fun K' hK' => k2 _ hK'⟩
    | false =>
      obtain ⟨t', h', k1, k2⟩ := awpOps_det hG hk
      exact ⟨_, t', h', k1, fun K' hK' => k2 _ hK'⟩
  | seq a b iha ihb =>
    intro t h K hk
    simp only [awp] at hk ⊢
    obtain ⟨e, t1, h1, k1, k2⟩ := iha hk
    cases e with
    | normal =>
      obtain ⟨e, t2, h2, k3, k4⟩ := ihb k1
      exact ⟨e, t2, h2, k3, fun K' hK' => k2 _ (k4 _ hK')⟩
    | exit id => exact ⟨_, t1, h1, k1, fun K' hK' => k2 _ hK'⟩
    | ret => exact ⟨_, t1, h1, k1, fun K' hK' => k2 _ hK'⟩
  | cond x a b iha ihb =>
    intro t h K hk
    simp only [awp] at hk ⊢
    split at hk
    · rename_i c hc
      try simp only [hc]
      cases c with
      | true => exact iha hk
      | false => exact ihb hk
    · exact hk.elim
  | block id c ih =>
    intro t h K hk
    simp only [awp] at hk ⊢
    obtain ⟨e, t1, h1, k1, k2⟩ := ih hk
    cases e with
    | normal => exact ⟨_, t1, h1, k1, fun K' hK' => k2 _ hK'⟩
    | ret => exact ⟨_, t1, h1, k1, fun K' hK' => k2 _ hK'⟩
    | exit i =>
      simp only at k1
      cases hb : Nat.beq i id with
      | true => rw [hb] at k1; exact ⟨_, t1, h1, k1, fun K' hK' => k2 _ (by simp only [hb, cond_true]; exact hK')⟩
      | false => rw [hb] at k1; exact ⟨_, t1, h1, k1, fun K' hK' => k2 _ (by simp only [hb, cond_false]; exact hK')⟩
  | loop c ih =>
    intro t h K hk
    simp only [awp] at hk ⊢
    obtain ⟨n, hk⟩ := hk
    obtain ⟨e, t', h', k1, k2⟩ := rounds_det (fun t h K hk => ih hk) hk
    exact ⟨e, t', h', k1, fun K' hK' => ⟨n, k2 _ hK'⟩⟩
  | scope c ih =>
    intro t h K hk
    simp only [awp] at hk ⊢
    exact ih hk
  | exit id => intro t h K hk; exact ⟨_, t, h, hk, fun K' hK' => hK'⟩
  | ret => intro t h K hk; exact ⟨_, t, h, hk, fun K' hK' => hK'⟩
  | _ => intros; rename_i hk; simp only [awp] at hk

theorem awpFn_det (hG : GenDet G) {fn : Func} {args : List AV} {h : Heap} {K : AV → Heap → Prop} (hk : awpFn E G fn args h K) :
    ∃ v h', K v h' ∧ ∀ K' : AV → Heap → Prop, K' v h' → awpFn E G fn args h K' := by
  unfold awpFn at hk ⊢
  cases hb : fn.body with
  | none => rw [hb] at hk; exact hk.elim
  | some c =>
    rw [hb] at hk
    simp only at hk ⊢
    obtain ⟨e, t', h', k1, k2⟩ := awp_det hG c hk
    have fin : ∀ e', (e' = e) → (match resultsA E t' h' fn.results.toList with
        | some (c, l) => cond c (K (oneOrTup l) h') False
        | none => False) → (∀ K' : AV → Heap → Prop, (match e' with | .exit _ => False | _ => match resultsA E t' h' fn.results.toList with
        | some (c, l) => cond c (K' (oneOrTup l) h') False
        | none => False) → awp E G c (fun i => args.getD i .undef) h fun e t h => match e with
    | .exit _ => False
    | _ => match resultsA E t h fn.results.toList with
      | some (c, l) => cond c (K' (oneOrTup l) h) False
      | none => False) → ∃ v h', K v h' ∧ ∀ K' : AV → Heap → Prop, K' v h' → awp E G c (fun i => args.getD i .undef) h fun e t h => match e with
    | .exit _ => False
    | _ => match resultsA E t h fn.results.toList with
      | some (c, l) => cond c (K' (oneOrTup l) h) False
      | none => False := by
      intro e' he hm hall
      split at hm
      · rename_i c' l hr
        obtain ⟨rfl, hm⟩ := cond_false_elim hm
        refine ⟨_, _, hm, fun K' hK' => hall K' ?_⟩
        subst he
        cases e' with
        | exit id => exact k1.elim
        | normal => simp only [hr, cond_true]; exact hK'
        | ret => simp only [hr, cond_true]; exact hK'
      · exact hm.elim
    cases e with
    | exit id => exact k1.elim
    | normal => exact fin .normal rfl k1 fun K' hm => k2 _ hm
    | ret => exact fin .ret rfl k1 fun K' hm => k2 _ hm

theorem inl_det : ∀ d, GenDet (inl E d)
  | 0 => by
    intro f args h K hk
    unfold inl at hk ⊢
    split at hk
    · rename_i a ha
      obtain ⟨ho, hk⟩ := cond_false_elim hk
      exact ⟨_, _, hk, fun K' hK' => by simp only [ha, ho, cond_true]; exact hK'⟩
    · exact hk.elim
  | d + 1 => by
    intro f args h K hk
    unfold inl at hk ⊢
    split at hk
    · rename_i a ha
      obtain ⟨ho, hk⟩ := cond_false_elim hk
      exact ⟨_, _, hk, fun K' hK' => by simp only [ha, ho, cond_true]; exact hK'⟩
    · rename_i ha
      try simp only [ha]
      split at hk
      · rename_i fn hf
        try simp only [hf]
        exact awpFn_det (inl_det d) hk
      · exact hk.elim
end
end Go.Abs
