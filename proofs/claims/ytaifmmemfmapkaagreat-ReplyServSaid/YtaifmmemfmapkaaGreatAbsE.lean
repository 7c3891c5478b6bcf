import Derived.Test.YtaifmmemfmapkaaGreatAbsD
set_option linter.unusedVariables false
set_option linter.unusedSimpArgs false
namespace Go.Abs
open Go.RowKit

mutual
/-- A value that names no block of the abstract heap. -/
def Solid : AV → Prop
  | .ptr _ _ | .sl _ _ _ _ | .map _ => False
  | .rp cs => Solids cs
  | .row _ xs => Solidss xs
  | .fn _ a c => Solids a ∧ Solids c
  | .ifc _ v => Solid v
  | .agg cs => Solids cs
  | .tup cs => Solids cs
  | _ => True
def Solids : List AV → Prop
  | [] => True
  | a :: as => Solid a ∧ Solids as
def Solidss : List (List AV) → Prop
  | [] => True
  | a :: as => Solids a ∧ Solidss as
end
theorem solids_iff : ∀ {l : List AV}, Solids l ↔ ∀ x ∈ l, Solid x
  | [] => by simp [Solids]
  | a :: as => by simp [Solids, solids_iff (l := as)]
theorem solidss_iff : ∀ {l : List (List AV)}, Solidss l ↔ ∀ x ∈ l, Solids x
  | [] => by simp [Solidss]
  | a :: as => by simp [Solidss, solidss_iff (l := as)]

section
variable {ρ ρ' : Nat → Option Nat} {own own' : Nat → Prop} {w : World} {N : Nat}
mutual
/-- A value that names no block of the abstract heap stands for the same under every naming, and whatever of the old blocks is barred. -/
theorem VR.solid (ho : ∀ b, own' b → own b) : ∀ (a : AV) (v : Value), Solid a → VR ρ own w a v → VR ρ' own' w a v
  | .bool _, _, _, hv | .int _ _, _, _, hv | .str _, _, _, hv | .nilp, _, _, hv | .nilm, _, _, hv | .nilf, _, _, hv | .nili, _, _, hv => hv
  | .ptr _ _, _, hs, _ => by unfold Solid at hs; exact hs.elim
  | .map _, _, hs, _ => by unfold Solid at hs; exact hs.elim
  | .sl _ _ _ _, _, hs, _ => by unfold Solid at hs; exact hs.elim
  | .rp cs, _, hs, hv => by
    unfold Solid at hs
    unfold VR at *
    obtain ⟨ad, h1, h3⟩ := hv
    exact ⟨ad, h1, CR.solid ho ad 0 _ hs h3⟩
  | .row sz xs, _, hs, hv => by
    unfold Solid at hs
    unfold VR at *
    obtain ⟨A, cap, h1, h2, h3⟩ := hv
    refine ⟨A, cap, h1, h2, fun hp => ?_⟩
    obtain ⟨ad, h4, h6⟩ := h3 hp
    exact ⟨ad, h4, RR.solid ho ad sz _ _ hs h6⟩
  | .emp _, _, _, hv => by unfold VR at *; exact hv
  | .fn _ a c, _, hs, hv => by
    unfold Solid at hs
    unfold VR at *
    obtain ⟨a', c', h1, h2, h3⟩ := hv
    exact ⟨a', c', h1, LR.solid ho _ _ hs.1 h2, LR.solid ho _ _ hs.2 h3⟩
  | .ifc _ x, _, hs, hv => by
    unfold Solid at hs
    unfold VR at *
    obtain ⟨y, h1, h2⟩ := hv
    exact ⟨y, h1, VR.solid ho _ _ hs h2⟩
  | .agg cs, _, hs, hv => by
    unfold Solid at hs
    unfold VR at *
    obtain ⟨c, h1, h2, h3⟩ := hv
    exact ⟨c, h1, LR.solid ho _ _ hs h2, h3⟩
  | .tup cs, _, hs, hv => by
    unfold Solid at hs
    unfold VR at *
    obtain ⟨c, h1, h2⟩ := hv
    exact ⟨c, h1, LR.solid ho _ _ hs h2⟩
  | .any, _, _, _ => by unfold VR; trivial
theorem CR.solid (ho : ∀ b, own' b → own b) (ad : Addr) : ∀ (i : Nat) (cs : List AV), Solids cs → CR ρ own w ad i cs → CR ρ' own' w ad i cs
  | _, [], _, _ => by unfold CR; trivial
  | i, c :: cs, hs, hc => by
    unfold Solids at hs
    unfold CR at *
    obtain ⟨⟨v, h1, h0, h2, h3⟩, h4⟩ := hc
    exact ⟨⟨v, h1, fun hb => h0 (ho _ hb), VR.solid ho _ _ hs.1 h2, h3⟩, CR.solid ho ad _ _ hs.2 h4⟩
theorem RR.solid (ho : ∀ b, own' b → own b) (ad : Addr) (sz : Nat) : ∀ (i : Nat) (xs : List (List AV)), Solidss xs → RR ρ own w ad sz i xs → RR ρ' own' w ad sz i xs
  | _, [], _, _ => by unfold RR; trivial
  | i, x :: xs, hs, hc => by
    unfold Solidss at hs
    unfold RR at *
    obtain ⟨⟨h1, h2⟩, h3⟩ := hc
    exact ⟨⟨h1, CR.solid ho ad _ _ hs.1 h2⟩, RR.solid ho ad sz _ _ hs.2 h3⟩
theorem LR.solid (ho : ∀ b, own' b → own b) : ∀ (as : List AV) (vs : List Value), Solids as → LR ρ own w as vs → LR ρ' own' w as vs
  | [], _, _, hv => by unfold LR at *; exact hv
  | a :: as, _, hs, hv => by
    unfold Solids at hs
    unfold LR at *
    obtain ⟨v, r, h1, h2, h3⟩ := hv
    exact ⟨v, r, h1, VR.solid ho _ _ hs.1 h2, LR.solid ho _ _ hs.2 h3⟩
end
end

/-- A list of cells, cut into elements. -/
def chunk (sz : Nat) : Nat → List AV → List (List AV)
  | 0, _ => []
  | n + 1, cs => cs.take sz :: chunk sz n (cs.drop sz)
theorem chunk_length (sz : Nat) : ∀ (n : Nat) (cs : List AV), (chunk sz n cs).length = n
  | 0, _ => rfl
  | n + 1, cs => by simp [chunk, chunk_length sz n]
theorem chunk_get (sz : Nat) : ∀ (n : Nat) (cs : List AV) (i : Nat) (x : List AV), (chunk sz n cs)[i]? = some x → i < n ∧ x = (cs.drop (i * sz)).take sz
  | 0, _, _, _, h => by simp [chunk] at h
  | n + 1, cs, 0, x, h => by simp [chunk] at h; subst h; simp
  | n + 1, cs, i + 1, x, h => by
    simp only [chunk, List.getElem?_cons_succ] at h
    obtain ⟨h1, h2⟩ := chunk_get sz n _ i x h
    refine ⟨by omega, ?_⟩
    rw [h2, List.drop_drop, Nat.add_mul, Nat.one_mul, Nat.add_comm sz]
theorem chunk_flatten {sz : Nat} : ∀ (xs : List (List AV)), (∀ x ∈ xs, x.length = sz) → chunk sz xs.length xs.flatten = xs
  | [], _ => rfl
  | x :: xs, h => by
    have hx := h x (by simp)
    simp only [List.length_cons, List.flatten_cons, chunk]
    rw [List.take_append_of_le_length (by omega), ← hx, List.take_length, List.drop_left, hx, chunk_flatten xs fun y hy => h y (by simp [hy])]

/-- A value as it stands apart from the heap. -/
def fz (h : Heap) : Nat → AV → AV
  | 0, a => a
  | k + 1, .sl β sz off len => match h.at β with
    | .cells false _ cs => .row sz ((chunk sz len (cs.drop off)).map fun x => x.map (fz h k))
    | _ => .sl β sz off len
  | k + 1, .agg cs => .agg (cs.map (fz h k))
  | k + 1, .tup cs => .tup (cs.map (fz h k))
  | _ + 1, a => a
def fzOk (h : Heap) : Nat → AV → Prop
  | 0, a => Solid a
  | k + 1, .sl β sz off len => match h.at β with
    | .cells false _ cs => off + len * sz ≤ cs.length ∧ ∀ c ∈ (cs.drop off).take (len * sz), fzOk h k c
    | _ => False
  | k + 1, .agg cs => ∀ c ∈ cs, fzOk h k c
  | k + 1, .tup cs => ∀ c ∈ cs, fzOk h k c
  | _ + 1, a => Solid a

theorem fz_sound {B : Nat} {ρ ρ' : Nat → Option Nat} {own own' : Nat → Prop} {w : World} {h : Heap} (H : HR B ρ own w h) (ho : ∀ b, own' b → own b) (hB : ∀ b, own' b → b < B) :
    ∀ (k : Nat) (a : AV) (v : Value), fzOk h k a → VR ρ own w a v → VR ρ' own' w (fz h k a) v
  | 0, a, v, hs, hv => by unfold fzOk at hs; unfold fz; exact VR.solid ho a v hs hv
  | k + 1, a, v, hs, hv => by
    have lists : ∀ (cs : List AV) (vs : List Value), (∀ c ∈ cs, fzOk h k c) → LR ρ own w cs vs → LR ρ' own' w (cs.map (fz h k)) vs := by
      intro cs vs hc hl
      refine LR.of (by simpa using hl.length) fun i x hx => ?_
      rw [List.getElem?_map, Option.map_eq_some_iff] at hx
      obtain ⟨c, hc', rfl⟩ := hx
      obtain ⟨v, k1, k2⟩ := hl.get hc'
      exact ⟨v, k1, fz_sound H ho hB k c v (hc c (List.mem_of_getElem? hc')) k2⟩
    cases a with
    | sl β sz off len =>
      unfold fzOk at hs
      unfold fz
      split at hs
      · rename_i t cs hβ
        obtain ⟨hle, hc⟩ := hs
        unfold VR at hv
        obtain ⟨b, A, cap, t', n, r1, rfl, hlc, hA, hsh, hn⟩ := hv
        have hbr := H.blk β
        rw [hβ] at hbr
        obtain ⟨b', n', r2, sh2, hcn, hcell, hro1, hro2⟩ := hbr
        rw [r1] at r2
        cases r2
        have hnb : ¬ own' b := by
          intro hb
          have := H.low β b (by rw [hβ]; rfl) r1
          have := hB b hb
          omega
        unfold VR
        refine ⟨A, cap, by simp [chunk_length], by simpa [chunk_length] using hlc, fun hp => ?_⟩
        simp only [List.length_map, chunk_length] at hp
        refine ⟨⟨b, off, none⟩, hA (by omega), RR.of fun j x hj => ?_⟩
        rw [List.getElem?_map, Option.map_eq_some_iff] at hj
        obtain ⟨y, hy, rfl⟩ := hj
        obtain ⟨hj1, rfl⟩ := chunk_get _ _ _ _ _ hy
        have hjs : (j + 1) * sz ≤ len * sz := Nat.mul_le_mul_right _ (by omega)
        rw [Nat.add_mul, Nat.one_mul] at hjs
        refine ⟨by simp; omega, CR.of fun m c hm => ?_⟩
        rw [List.getElem?_map, Option.map_eq_some_iff] at hm
        obtain ⟨c', hc', rfl⟩ := hm
        rw [List.getElem?_take] at hc'
        split at hc'
        · rename_i hms
          rw [List.getElem?_drop, List.getElem?_drop] at hc'
          obtain ⟨v, k1, k2, k3⟩ := hcell _ _ hc'
          refine ⟨v, ?_, hnb, fz_sound H ho hB k c' v (hc c' ?_) k2, k3⟩
          · rw [add_off, Nat.zero_add]; rw [← k1]
          · refine List.mem_of_getElem? (i := j * sz + m) ?_
            rw [List.getElem?_take, if_pos (by omega), List.getElem?_drop]
            exact hc'
        · cases hc'
      · exact hs.elim
    | agg cs =>
      unfold fzOk at hs
      unfold fz
      unfold VR at hv ⊢
      obtain ⟨c, rfl, hl, h1⟩ := hv
      exact ⟨c, rfl, lists cs _ hs hl, h1⟩
    | tup cs =>
      unfold fzOk at hs
      unfold fz
      unfold VR at hv ⊢
      obtain ⟨c, rfl, hl⟩ := hv
      exact ⟨c, rfl, lists cs _ hs hl⟩
    | _ => unfold fzOk at hs; unfold fz; exact VR.solid ho _ v hs hv

/-! ### A function that takes and gives values alone -/
/-- What a contract without the heap says. -/
def PureOk (P : Program) (f : FuncId) (g : List AV → Option (Bool × AV)) : Prop := ∀ args v, g args = some (true, v) → Enters P f ∧
  ∀ B ρ own w h (cargs : Array Value), HR B ρ own w h → LR ρ own w args cargs.toList → Calls P f cargs w (CallPost B ρ own w fun v' h' => v' = v ∧ h' = h)

theorem pure_of {P : Program} {E : Env} {G : Gen} (hE : EnvOk P E) (hG : GenOk P G) {f : FuncId} {fn : Func} (hf : P.funcs[f]? = some fn) (hok : fnOk fn = true) {args : List AV} {v : AV} (hs : Solids args)
    (hk : awpFn E G fn args [] fun v' h' => fzOk h' 5 v' ∧ fz h' 5 v' = v) :
    Enters P f ∧ ∀ B ρ own w h (cargs : Array Value), HR B ρ own w h → LR ρ own w args cargs.toList → Calls P f cargs w (CallPost B ρ own w fun v' h' => v' = v ∧ h' = h) := by
  obtain ⟨h1, h2⟩ := awpFn_sound hE hG hf hok hk
  refine ⟨h1, fun B ρ own w h cargs H hl => ?_⟩
  have H0 : HR w.heap.size (fun _ => none) own w [] := ⟨fun β => by simp [Heap.at, BR], fun _ _ => rfl, fun _ _ _ l => by simp [Heap.at, Blk.live] at l, (fun _ _ e => by cases e), H.own, fun β b l => by simp [Heap.at, Blk.live] at l, Nat.le_refl _⟩
  refine (h2 w.heap.size (fun _ => none) own w cargs H0 (LR.solid (fun _ h => h) _ _ hs hl)).mono ?_
  rintro e w' ⟨v', h', cv, ρ', own', rfl, ⟨f1, f2⟩, H', E', V'⟩
  have hE' : Ext B ρ own w ρ own w' := ⟨E'.os, E'.tape, E'.output, E'.size, fun _ _ h => h, fun b hb ho => ⟨E'.low b hb, ho⟩, E'.shape, fun b hb => E'.low b (Nat.lt_of_lt_of_le hb H.base), fun _ h => h⟩
  refine ⟨v, h, cv, ρ, own, rfl, ⟨rfl, rfl⟩, H.still hE' fun b hb => E'.low b hb, hE', ?_⟩
  rw [← f2]
  exact fz_sound H' E'.grow (fun b hb => H.own b hb) 5 v' cv f1 V'

/-- Contracts out of a table. -/
abbrev Tbl := List (FuncId × (List AV → Option (Bool × AV)))
def tblC : Tbl → Contracts
  | [], _, _, _ => none
  | (k, g) :: r, f, args, h => cond (Nat.beq k f) ((g args).map fun p => ⟨p.1, p.2, h, []⟩) (tblC r f args h)
theorem tbl_ok {P : Program} : ∀ {t : Tbl}, (∀ p ∈ t, PureOk P p.1 p.2) → CtrOk P (tblC t)
  | [], _ => fun f args h ans hc => by cases hc
  | (k, g) :: r, hp => by
    intro f args h ans hc hok
    unfold tblC at hc
    cases hb : Nat.beq k f with
    | false => rw [hb] at hc; exact tbl_ok (fun p hp' => hp p (by simp [hp'])) f args h ans hc hok
    | true =>
      rw [hb] at hc
      simp only [cond_true, Option.map_eq_some_iff] at hc
      obtain ⟨⟨ok, v⟩, h1, rfl⟩ := hc
      simp only at hok
      subst hok
      have := Nat.eq_of_beq_eq_true hb
      subst this
      obtain ⟨k1, k2⟩ := hp (k, g) (by simp) args v h1
      exact ⟨k1, fun _ _ => rfl, fun B ρ own w cargs H hl => k2 B ρ own w h cargs H hl⟩

/-! ### A loop -/
theorem loop_rule {body : (Nat → AV) → Heap → KontE → Prop} {K : KontE} (I : (Nat → AV) → Heap → Prop) (μ : (Nat → AV) → Heap → Nat)
    (step : ∀ t h, I t h → ∀ J : KontE, (∀ t' h', I t' h' → μ t' h' < μ t h → J .normal t' h') → (∀ e t' h', e ≠ .normal → K e t' h' → J e t' h') → body t h J) {t : Nat → AV} {h : Heap} (h0 : I t h) : ∃ n, rounds body K n t h := by
  have key : ∀ m t h, μ t h < m → I t h → rounds body K m t h := by
    intro m
    induction m with
    | zero => intro t h hm; omega
    | succ m ih =>
      intro t h hm hI
      unfold rounds
      refine step t h hI _ (fun t' h' h1 h2 => ih t' h' (by omega) h1) (fun e t' h' hne he => ?_)
      cases e with
      | normal => exact absurd rfl hne
      | exit id => exact he
      | ret => exact he
  exact ⟨μ t h + 1, key _ t h (by omega) h0⟩
end Go.Abs
