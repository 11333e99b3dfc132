/- A pattern within a greater text, the rest: parts, rows, bars; and what stands in brackets. -/
import Derived.Test.YtmlmnckhiianhaaDoorRxW
namespace Go.Proofs.YtmlmnckhiianhaaDoor
set_option linter.unusedVariables false
namespace Rx

/-- One answer is another's, o places on. -/
def Moved {α : Type} (o : Nat) (R S : Except Nat (α × Nat)) : Prop := (∀ x j, R = .ok (x, j) → S = .ok (x, o + j)) ∧ (R = .error 9 → S = .error 9)
theorem Moved.ok {α : Type} {o : Nat} {x : α} {j k : Nat} (h : k = o + j) : Moved o (.ok (x, j)) (.ok (x, k)) := by
  subst h
  exact ⟨fun y n e => (by injection e with e; injection e with e1 e2; rw [e1, e2]), fun e => (by cases e)⟩
theorem Moved.bad {α : Type} {o : Nat} {S : Except Nat (α × Nat)} {e : Nat} (h : e ≠ 9) : Moved o (.error e) S :=
  ⟨fun y n k => (by cases k), fun k => (by injection k with k; exact absurd k h)⟩
theorem pPart_with {t T : List Nat} {o : Nat} (h : Within t T o) {f F : Nat → Except Nat (Rx × Nat)} (hf : ∀ i, i ≤ t.length → Moved o (f i) (F (o + i))) (hk : Keeps t f) {i : Nat} (hi : i ≤ t.length) : Moved o (pPart f t i) (pPart F T (o + i)) := by
  cases hc : t[i]? with
  | none => unfold pPart; rw [hc]; exact Moved.bad (by decide)
  | some c =>
    have hlt := get_lt hc
    have hc2 := h.get _ _ hc
    unfold pPart
    rw [hc, hc2]
    simp only
    by_cases h40 : c = 40
    · simp only [if_pos h40]
      rw [show o + i + 1 = o + (i + 1) by omega]
      obtain ⟨h1, h2⟩ := hf (i + 1) (by omega)
      cases hr : f (i + 1) with
      | error e =>
        by_cases he : e = 9
        · subst he
          rw [h2 hr]
          exact ⟨fun x j e => (by cases e), fun _ => rfl⟩
        · exact Moved.bad he
      | ok p =>
        obtain ⟨x, j⟩ := p
        rw [h1 x j hr]
        simp only
        by_cases h41 : t[j]? = some 41
        · rw [if_pos h41, if_pos (h.get _ _ h41)]
          exact Moved.ok (by omega)
        · rw [if_neg h41]
          exact Moved.bad (by decide)
    · simp only [if_neg h40]
      by_cases h91 : c = 91
      · simp only [if_pos h91]
        rw [show o + i + 1 = o + (i + 1) by omega]
        exact ⟨fun x j e => pClass_with h (by omega) e, fun e => absurd e pClass_err⟩
      · simp only [if_neg h91]
        split
        · exact Moved.bad (by decide)
        · split
          · exact Moved.ok (by omega)
          · split
            · cases hd : t[i + 1]? with
              | none => exact Moved.bad (by decide)
              | some d =>
                rw [show o + i + 1 = o + (i + 1) by omega, h.get _ _ hd]
                exact Moved.ok (by omega)
            · exact Moved.ok (by omega)
theorem sign_with {t T : List Nat} {o i : Nat} (h : Within t T o) (hi : i ≤ t.length) (x : Rx) : sign T[o + i]? x = sign t[i]? x := by
  unfold sign
  simp only [h.eq hi (show (42 : Nat) ≠ 41 by decide), h.eq hi (show (43 : Nat) ≠ 41 by decide), h.eq hi (show (63 : Nat) ≠ 41 by decide)]
theorem pSigns_with {t T : List Nat} {o : Nat} (h : Within t T o) : ∀ (f F i : Nat) (x : Rx), t.length < i + f → f ≤ F → i ≤ t.length → pSigns T F (o + i) x = ((pSigns t f i x).1, o + (pSigns t f i x).2)
  | 0, F, i, x, h1, _, h2 => by omega
  | f + 1, 0, i, x, _, h1, _ => by omega
  | f + 1, F + 1, i, x, h1, h2, h3 => by
    unfold pSigns
    rw [sign_with h h3]
    cases hs : sign t[i]? x with
    | none => rfl
    | some y =>
      have hi : i < t.length := by
        cases hc : t[i]? with
        | none => rw [hc] at hs; simp [sign] at hs
        | some c => exact get_lt hc
      exact pSigns_with h f F (i + 1) y (by omega) (by omega) (by omega)
theorem pTimes_with {t T : List Nat} {o : Nat} (h : Within t T o) {f F : Nat → Except Nat (Rx × Nat)} (hf : ∀ i, i ≤ t.length → Moved o (f i) (F (o + i))) (hk : Keeps t f) {i : Nat} (hi : i ≤ t.length) : Moved o (pTimes f t i) (pTimes F T (o + i)) := by
  obtain ⟨h1, h2⟩ := pPart_with h hf hk hi
  have hlen := h.len
  unfold pTimes
  cases hr : pPart f t i with
  | error e =>
    by_cases he : e = 9
    · subst he
      rw [h2 hr]
      exact ⟨fun x j e => (by cases e), fun _ => rfl⟩
    · exact Moved.bad he
  | ok p =>
    obtain ⟨x, j⟩ := p
    rw [h1 x j hr]
    simp only
    rw [pSigns_with h (t.length + 1) (T.length + 1) j x (by omega) (by omega) (pPart_in hr)]
    exact Moved.ok rfl
theorem stop_with {t T : List Nat} {o i : Nat} (h : Within t T o) (hi : i ≤ t.length) : (o + i < T.length ∧ T[o + i]? ≠ some 124 ∧ T[o + i]? ≠ some 41) ↔ (i < t.length ∧ t[i]? ≠ some 124 ∧ t[i]? ≠ some 41) := by
  by_cases hlt : i < t.length
  · rw [h.lt hlt]
    have := h.len
    constructor
    · rintro ⟨_, h2⟩; exact ⟨hlt, h2⟩
    · rintro ⟨_, h2⟩; exact ⟨by omega, h2⟩
  · have : i = t.length := by omega
    subst this
    constructor
    · rintro ⟨_, _, h3⟩; exact absurd h.none h3
    · rintro ⟨h1, _⟩; omega
theorem pParts_with {t T : List Nat} {o : Nat} (h : Within t T o) {f F : Nat → Except Nat (Rx × Nat)} (hf : ∀ i, i ≤ t.length → Moved o (f i) (F (o + i))) (hk : Keeps t f) (hg : Good f) : ∀ (k K i : Nat) (l : List Rx), t.length < i + k → k ≤ K → i ≤ t.length → Moved o (pParts f t k i l) (pParts F T K (o + i) l)
  | 0, K, i, l, h1, _, h2 => by omega
  | k + 1, 0, i, l, _, h1, _ => by omega
  | k + 1, K + 1, i, l, h1, h2, h3 => by
    unfold pParts
    by_cases hc : i < t.length ∧ t[i]? ≠ some 124 ∧ t[i]? ≠ some 41
    · rw [if_pos hc, if_pos ((stop_with h h3).2 hc)]
      obtain ⟨m1, m2⟩ := pTimes_with h hf hk h3
      cases hr : pTimes f t i with
      | error e =>
        by_cases he : e = 9
        · subst he
          rw [m2 hr]
          exact ⟨fun x j e => (by cases e), fun _ => rfl⟩
        · exact Moved.bad he
      | ok p =>
        obtain ⟨x, j⟩ := p
        rw [m1 x j hr]
        have := pTimes_adv hg hr
        exact pParts_with h hf hk hg k K j _ (by omega) (by omega) (pTimes_in hr)
    · rw [if_neg hc, if_neg (fun e => hc ((stop_with h h3).1 e))]
      exact Moved.ok rfl
theorem pRow_with {t T : List Nat} {o : Nat} (h : Within t T o) {f F : Nat → Except Nat (Rx × Nat)} (hf : ∀ i, i ≤ t.length → Moved o (f i) (F (o + i))) (hk : Keeps t f) (hg : Good f) {i : Nat} (hi : i ≤ t.length) : Moved o (pRow f t i) (pRow F T (o + i)) := by
  have hlen := h.len
  obtain ⟨m1, m2⟩ := pParts_with h hf hk hg (t.length + 1) (T.length + 1) i [] (by omega) (by omega) hi
  unfold pRow
  cases hr : pParts f t (t.length + 1) i [] with
  | error e =>
    by_cases he : e = 9
    · subst he
      rw [m2 hr]
      exact ⟨fun x j e => (by cases e), fun _ => rfl⟩
    · exact Moved.bad he
  | ok p =>
    obtain ⟨x, j⟩ := p
    rw [m1 x j hr]
    exact Moved.ok rfl
theorem pBars_with {t T : List Nat} {o : Nat} (h : Within t T o) {f F : Nat → Except Nat (Rx × Nat)} (hf : ∀ i, i ≤ t.length → Moved o (f i) (F (o + i))) (hk : Keeps t f) (hg : Good f) : ∀ (k K i : Nat) (l : List Rx), t.length < i + k → k ≤ K → i ≤ t.length → Moved o (pBars f t k i l) (pBars F T K (o + i) l)
  | 0, K, i, l, h1, _, h2 => by omega
  | k + 1, 0, i, l, _, h1, _ => by omega
  | k + 1, K + 1, i, l, h1, h2, h3 => by
    unfold pBars
    simp only [h.eq h3 (show (124 : Nat) ≠ 41 by decide)]
    by_cases hc : t[i]? = some 124
    · rw [if_pos hc, if_pos hc]
      have hlt := get_lt hc
      rw [show o + i + 1 = o + (i + 1) by omega]
      obtain ⟨m1, m2⟩ := pRow_with h hf hk hg (show i + 1 ≤ t.length by omega)
      cases hr : pRow f t (i + 1) with
      | error e =>
        by_cases he : e = 9
        · subst he
          rw [m2 hr]
          exact ⟨fun x j e => (by cases e), fun _ => rfl⟩
        · exact Moved.bad he
      | ok p =>
        obtain ⟨x, j⟩ := p
        rw [m1 x j hr]
        have := (pRow_adv hg hr).1
        exact pBars_with h hf hk hg k K j _ (by omega) (by omega) (pRow_in (by omega) hr)
    · rw [if_neg hc, if_neg hc]
      exact Moved.ok rfl
theorem pPat_with {t T : List Nat} {o : Nat} (h : Within t T o) : ∀ (n i : Nat), i ≤ t.length → Moved o (pPat t n i) (pPat T n (o + i))
  | 0, i, hi => ⟨fun x j e => (by cases e), fun _ => rfl⟩
  | n + 1, i, hi => by
    have hlen := h.len
    have ih := pPat_with h n
    obtain ⟨m1, m2⟩ := pRow_with h ih (pPat_in t n) (pPat_good t n) hi
    unfold pPat
    cases hr : pRow (pPat t n) t i with
    | error e =>
      by_cases he : e = 9
      · subst he
        rw [m2 hr]
        exact ⟨fun x j e => (by cases e), fun _ => rfl⟩
      · exact Moved.bad he
    | ok p =>
      obtain ⟨x, j⟩ := p
      rw [m1 x j hr]
      simp only
      obtain ⟨b1, b2⟩ := pBars_with h ih (pPat_in t n) (pPat_good t n) (t.length + 1) (T.length + 1) j [x] (by omega) (by omega) (pRow_in hi hr)
      cases hb : pBars (pPat t n) t (t.length + 1) j [x] with
      | error e =>
        by_cases he : e = 9
        · subst he
          rw [b2 hb]
          exact ⟨fun x j e => (by cases e), fun _ => rfl⟩
        · exact Moved.bad he
      | ok q =>
        obtain ⟨l, k⟩ := q
        rw [b1 l k hb]
        exact Moved.ok rfl

/-- A pattern in brackets, as a part: what it is by itself, if it isn't too deep there. -/
theorem pPart_bracket {p T : List Nat} {o : Nat} {x : Rx} (hp : parse p = .ok x) (h : Within p T (o + 1)) (h0 : T[o]? = some 40) :
    (pPat p 7 0 = .ok (x, p.length) ∧ pPart (pPat T 7) T o = .ok (x, o + p.length + 2)) ∨ (pPat p 7 0 = .error 9 ∧ pPart (pPat T 7) T o = .error 9) := by
  obtain ⟨hl, h8⟩ := parse_ok hp
  obtain ⟨m1, m2⟩ := pPat_with h 7 0 (Nat.zero_le _)
  have hn := h.none
  rcases pPat_less p 7 _ _ _ h8 with e | e
  · refine .inl ⟨e, ?_⟩
    have h2 := m1 _ _ e
    unfold pPart
    rw [h0]
    simp only [if_true]
    rw [Nat.add_zero] at h2
    rw [h2]
    simp only
    rw [if_pos hn]
    congr 2
    omega
  · refine .inr ⟨e, ?_⟩
    have h2 := m2 e
    unfold pPart
    rw [h0]
    simp only [if_true]
    rw [Nat.add_zero] at h2
    rw [h2]
end Rx
end Go.Proofs.YtmlmnckhiianhaaDoor
