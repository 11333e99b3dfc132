/- Where a pattern may end, place by place; no Go in sight. -/
import Derived.Test.YtaaonhaighdlaaaRxT
namespace Go.Proofs.Ytaaonhaighdlaaa
set_option linter.unusedVariables false
namespace Rx

/-- The piece of u from b to e. -/
def sub (u : List Nat) (b e : Nat) : List Nat := (u.drop b).take (e - b)
theorem sub_nil (u : List Nat) (b : Nat) : sub u b b = [] := by simp [sub]
theorem sub_app (u : List Nat) {b m e : Nat} (h1 : b ≤ m) (h2 : m ≤ e) : sub u b e = sub u b m ++ sub u m e := by
  unfold sub
  have e1 : e - b = (m - b) + (e - m) := by omega
  rw [e1, List.take_add, List.drop_drop]
  congr 3
  omega
theorem sub_len {u : List Nat} {b e : Nat} (h1 : b ≤ e) (h2 : e ≤ u.length) : (sub u b e).length = e - b := by
  unfold sub
  rw [List.length_take, List.length_drop]; omega
theorem sub_cut {u : List Nat} {b e : Nat} (h1 : b ≤ e) (h2 : e ≤ u.length) {x y : List Nat} (h : sub u b e = x ++ y) : b + x.length ≤ e ∧ x = sub u b (b + x.length) ∧ y = sub u (b + x.length) e := by
  have hl := sub_len h1 h2
  rw [h, List.length_append] at hl
  have hm : b + x.length ≤ e := by omega
  have hs := sub_app u (show b ≤ b + x.length by omega) hm
  rw [h] at hs
  have hx : x.length = (sub u b (b + x.length)).length := by rw [sub_len (by omega) (by omega)]; omega
  obtain ⟨e1, e2⟩ := List.append_inj hs hx
  exact ⟨hm, e1, e2⟩
theorem sub_all (u : List Nat) : sub u 0 u.length = u := by simp [sub]
theorem sub_one {u : List Nat} {i c : Nat} (h : u[i]? = some c) : sub u i (i + 1) = [c] := by
  unfold sub
  rw [Nat.add_sub_cancel_left]
  have hl := (List.getElem?_eq_some_iff.1 h).1
  rw [List.drop_eq_getElem_cons hl]
  have : u[i] = c := by rw [List.getElem?_eq_getElem hl] at h; injection h
  rw [this]; rfl

/-- A part that begins at one of F's places may end at e. -/
def stp (x : Rx) (u : List Nat) (F : Nat → Bool) (e : Nat) : Prop := ∃ b, b ≤ e ∧ F b = true ∧ L x (sub u b e)
theorem stp_mono {x : Rx} {u : List Nat} {F G : Nat → Bool} {e : Nat} (hf : ∀ b, b ≤ e → F b = true → G b = true) (h : stp x u F e) : stp x u G e := by
  obtain ⟨b, h1, h2, h3⟩ := h
  exact ⟨b, h1, hf b h1 h2, h3⟩

theorem stp_byte {u : List Nat} {F : Nat → Bool} {P : Nat → Bool} {e : Nat} (he : e ≤ u.length) : stp (.byte P) u F e ↔ ∃ i c, e = i + 1 ∧ u[i]? = some c ∧ F i = true ∧ P c = true := by
  constructor
  · rintro ⟨b, h1, h2, c, h3, h4⟩
    have hl := sub_len h1 he
    rw [h3] at hl
    simp at hl
    have e1 : e = b + 1 := by omega
    subst e1
    have hb : b < u.length := by omega
    rw [sub_one (List.getElem?_eq_getElem hb)] at h3
    injection h3 with h3
    subst h3
    exact ⟨b, _, rfl, List.getElem?_eq_getElem hb, h2, h4⟩
  · rintro ⟨i, c, rfl, h1, h2, h3⟩
    exact ⟨i, by omega, h2, c, sub_one h1, h3⟩
theorem stp_row_nil {u : List Nat} {F : Nat → Bool} {e : Nat} (he : e ≤ u.length) : stp (.row []) u F e ↔ F e = true := by
  constructor
  · rintro ⟨b, h1, h2, h3⟩
    have h3 : sub u b e = [] := h3
    have hl := sub_len h1 he
    rw [h3] at hl
    simp at hl
    have : b = e := by omega
    subst this
    exact h2
  · intro h
    exact ⟨e, Nat.le_refl _, h, by unfold L LRow; exact sub_nil u e⟩
theorem stp_row_cons {u : List Nat} {F G : Nat → Bool} {x : Rx} {l : List Rx} {e : Nat} (he : e ≤ u.length) (hG : ∀ m, m ≤ u.length → (G m = true ↔ stp x u F m)) : stp (.row (x :: l)) u F e ↔ stp (.row l) u G e := by
  constructor
  · rintro ⟨b, h1, h2, h3⟩
    have h3 : LRow (x :: l) (sub u b e) := h3
    unfold LRow at h3
    obtain ⟨p, q, h4, h5, h6⟩ := h3
    obtain ⟨hm, e1, e2⟩ := sub_cut h1 he h4
    refine ⟨b + p.length, hm, (hG _ (by omega)).2 ⟨b, by omega, h2, by rw [← e1]; exact h5⟩, ?_⟩
    show LRow l _
    rw [← e2]; exact h6
  · rintro ⟨m, h1, h2, h3⟩
    obtain ⟨b, h4, h5, h6⟩ := (hG m (by omega)).1 h2
    refine ⟨b, by omega, h5, ?_⟩
    show LRow (x :: l) _
    unfold LRow
    exact ⟨_, _, sub_app u h4 h1, h6, h3⟩
theorem stp_any {u : List Nat} {F : Nat → Bool} {l : List Rx} {e : Nat} : stp (.either l) u F e ↔ ∃ x, x ∈ l ∧ stp x u F e := by
  have hA : ∀ (l : List Rx) (v : List Nat), LAny l v ↔ ∃ x, x ∈ l ∧ L x v := by
    intro l v
    induction l with
    | nil => simp [LAny]
    | cons a l ih => simp [LAny, ih]
  constructor
  · rintro ⟨b, h1, h2, h3⟩
    obtain ⟨x, hx, hl⟩ := (hA l _).1 h3
    exact ⟨x, hx, b, h1, h2, hl⟩
  · rintro ⟨x, hx, b, h1, h2, h3⟩
    exact ⟨b, h1, h2, (hA l _).2 ⟨x, hx, h3⟩⟩
theorem stp_maybe {u : List Nat} {F : Nat → Bool} {x : Rx} {e : Nat} (he : e ≤ u.length) : stp (.maybe x) u F e ↔ F e = true ∨ stp x u F e := by
  constructor
  · rintro ⟨b, h1, h2, h3⟩
    have h3 : sub u b e = [] ∨ L x (sub u b e) := h3
    rcases h3 with h3 | h3
    · have hl := sub_len h1 he
      rw [h3] at hl
      simp at hl
      have : b = e := by omega
      subst this
      exact .inl h2
    · exact .inr ⟨b, h1, h2, h3⟩
  · rintro (h | ⟨b, h1, h2, h3⟩)
    · exact ⟨e, Nat.le_refl _, h, .inl (sub_nil u e)⟩
    · exact ⟨b, h1, h2, .inr h3⟩

theorem star_close {u : List Nat} {x : Rx} {O : Nat → Bool} (hc : ∀ e, e ≤ u.length → stp x u O e → O e = true) {v : List Nat} (hs : Star (L x) v) : ∀ (b e : Nat), b ≤ e → e ≤ u.length → O b = true → sub u b e = v → O e = true := by
  induction hs with
  | nil =>
    intro b e h1 h2 h3 h4
    have hl := sub_len h1 h2
    rw [h4] at hl
    simp at hl
    have : b = e := by omega
    subst this
    exact h3
  | cons ha _ ih =>
    intro b e h1 h2 h3 h4
    obtain ⟨hm, e1, e2⟩ := sub_cut h1 h2 h4
    exact ih _ e hm h2 (hc _ (by omega) ⟨b, by omega, h3, by rw [← e1]; exact ha⟩) e2.symm
/-- Whatever has F's places and is closed has all that star means. -/
theorem star_least {u : List Nat} {x : Rx} {F O : Nat → Bool} (hF : ∀ e, e ≤ u.length → F e = true → O e = true) (hc : ∀ e, e ≤ u.length → stp x u O e → O e = true) {e : Nat} (he : e ≤ u.length) (h : stp (.star x) u F e) : O e = true := by
  obtain ⟨b, h1, h2, h3⟩ := h
  exact star_close hc (show Star (L x) _ from h3) b e h1 he (hF b (by omega) h2) rfl
theorem plus_least {u : List Nat} {x : Rx} {F O : Nat → Bool} (hF : ∀ e, e ≤ u.length → stp x u F e → O e = true) (hc : ∀ e, e ≤ u.length → stp x u O e → O e = true) {e : Nat} (he : e ≤ u.length) (h : stp (.plus x) u F e) : O e = true := by
  obtain ⟨b, h1, h2, h3⟩ := h
  have h3 : ∃ p q, sub u b e = p ++ q ∧ L x p ∧ Star (L x) q := h3
  obtain ⟨p, q, h4, h5, h6⟩ := h3
  obtain ⟨hm, e1, e2⟩ := sub_cut h1 he h4
  exact star_close hc h6 _ e hm he (hF _ (by omega) ⟨b, by omega, h2, by rw [← e1]; exact h5⟩) e2.symm
theorem Star.snoc {P : List Nat → Prop} {a b : List Nat} (h : Star P a) (hb : P b) : Star P (a ++ b) := by
  induction h with
  | nil => have := Star.cons hb .nil; simpa using this
  | cons ha _ ih => rw [List.append_assoc]; exact .cons ha ih
theorem star_self {u : List Nat} {x : Rx} {F : Nat → Bool} {e : Nat} (h : F e = true) : stp (.star x) u F e := ⟨e, Nat.le_refl _, h, by show Star (L x) _; rw [sub_nil]; exact .nil⟩
theorem star_step {u : List Nat} {x : Rx} {F O : Nat → Bool} (hO : ∀ e, e ≤ u.length → O e = true → stp (.star x) u F e) {e : Nat} (he : e ≤ u.length) (h : stp x u O e) : stp (.star x) u F e := by
  obtain ⟨m, h1, h2, h3⟩ := h
  obtain ⟨b, h4, h5, h6⟩ := hO m (by omega) h2
  refine ⟨b, by omega, h5, ?_⟩
  show Star (L x) _
  rw [sub_app u h4 h1]
  exact Star.snoc (show Star (L x) _ from h6) h3
theorem plus_self {u : List Nat} {x : Rx} {F : Nat → Bool} {e : Nat} (h : stp x u F e) : stp (.plus x) u F e := by
  obtain ⟨b, h1, h2, h3⟩ := h
  exact ⟨b, h1, h2, _, [], by simp, h3, .nil⟩
theorem plus_step {u : List Nat} {x : Rx} {F O : Nat → Bool} (hO : ∀ e, e ≤ u.length → O e = true → stp (.plus x) u F e) {e : Nat} (he : e ≤ u.length) (h : stp x u O e) : stp (.plus x) u F e := by
  obtain ⟨m, h1, h2, h3⟩ := h
  obtain ⟨b, h4, h5, h6⟩ := hO m (by omega) h2
  have h6 : ∃ p q, sub u b m = p ++ q ∧ L x p ∧ Star (L x) q := h6
  obtain ⟨p, q, h7, h8, h9⟩ := h6
  refine ⟨b, by omega, h5, p, q ++ sub u m e, ?_, h8, Star.snoc h9 h3⟩
  rw [sub_app u h4 h1, h7, List.append_assoc]
end Rx
end Go.Proofs.Ytaaonhaighdlaaa
