/- What a text means whose bytes all stand for themselves, and one with a backslash ahead of each byte. -/
import Derived.Test.YtaaonhaighdlaaaRxZ
import Derived.Lib.Bytealg
namespace Go.Proofs.Ytaaonhaighdlaaa
set_option linter.unusedVariables false

namespace Rx
/-- Each byte by itself. -/
def lits (u : List Nat) : List Rx := u.map fun b => .byte (fun x => x == b)
theorem lits_app (u v : List Nat) : lits (u ++ v) = lits u ++ lits v := by simp [lits]
/-- A backslash ahead of each byte. -/
def esc : List Nat → List Nat
  | [] => []
  | b :: u => 92 :: b :: esc u
theorem esc_app : ∀ (u v : List Nat), esc (u ++ v) = esc u ++ esc v
  | [], v => rfl
  | b :: u, v => by simp [esc, esc_app u v]
theorem esc_len : ∀ u : List Nat, (esc u).length = 2 * u.length
  | [] => rfl
  | b :: u => by simp [esc, esc_len u]; omega
theorem esc_head (u : List Nat) (b : Nat) : (esc u)[0]? = some b → b = 92 := by
  cases u with
  | nil => intro h; simp [esc] at h
  | cons c u => intro h; simp [esc] at h; exact h.symm
theorem noSign_esc (a u : List Nat) : NoSign (esc a ++ esc u)[(esc a).length]? := by
  rw [List.getElem?_append_right (Nat.le_refl _), Nat.sub_self]
  refine ⟨?_, ?_, ?_⟩ <;> intro h <;> have := esc_head u _ h <;> omega

theorem esc_parts : ∀ (u a : List Nat) (f : Nat → Except Nat (Rx × Nat)) (k : Nat) (l : List Rx), u.length < k → pParts f (esc a ++ esc u) k (esc a).length l = .ok (l ++ lits u, (esc a ++ esc u).length)
  | [], a, f, k, l, hk => by
    simp only [esc, List.append_nil, lits, List.map_nil]
    exact parts_stop (by simp)
  | b :: u, a, f, k, l, hk => by
    obtain ⟨k, rfl⟩ : ∃ m, k = m + 1 := ⟨k - 1, by simp at hk; omega⟩
    have g0 : (esc a ++ esc (b :: u))[(esc a).length]? = some 92 := by simp [esc]
    have g1 : (esc a ++ esc (b :: u))[(esc a).length + 1]? = some b := by
      rw [List.getElem?_append_right (by omega)]; simp [esc]
    have hp : pPart f (esc a ++ esc (b :: u)) (esc a).length = .ok (.byte (fun x => x == b), (esc a).length + 2) := by
      unfold pPart
      simp only [g0, g1]
      rfl
    have e : esc a ++ esc (b :: u) = esc (a ++ [b]) ++ esc u := by rw [esc_app]; simp [esc]
    have el : (esc (a ++ [b])).length = (esc a).length + 2 := by rw [esc_app]; simp [esc]
    have hs : NoSign (esc a ++ esc (b :: u))[(esc a).length + 2]? := by rw [e, ← el]; exact noSign_esc _ _
    rw [parts_step (by simp [esc]) (by rw [g0]; decide) (by rw [g0]; decide) (times_plain hp hs), e, ← el]
    rw [esc_parts u (a ++ [b]) f k _ (by simp at hk; omega)]
    simp [lits]
theorem esc_parse (u : List Nat) (h : u.length ≤ 32) : parse (esc u) = .ok (.either [.row (lits u)]) := by
  have hl := esc_len u
  refine parse_row (by omega) ?_
  have := esc_parts u [] (pPat (esc u) 7) ((esc u).length + 1) [] (by omega)
  simpa [esc] using this

/-- A byte that stands for itself. -/
def Plain (b : Nat) : Prop := b ∉ [42, 43, 63, 124, 40, 41, 91, 93, 123, 125, 94, 36, 46, 92]
theorem Plain.get {u : List Nat} (h : ∀ b, b ∈ u → Plain b) {i b : Nat} (hb : u[i]? = some b) : Plain b := h b (List.mem_of_getElem? hb)
theorem plain_parts : ∀ (u a : List Nat) (f : Nat → Except Nat (Rx × Nat)) (k : Nat) (l : List Rx), (∀ b, b ∈ u → Plain b) → u.length < k → pParts f (a ++ u) k a.length l = .ok (l ++ lits u, (a ++ u).length)
  | [], a, f, k, l, hP, hk => by
    simp only [List.append_nil, lits, List.map_nil]
    exact parts_stop (by simp)
  | b :: u, a, f, k, l, hP, hk => by
    obtain ⟨k, rfl⟩ : ∃ m, k = m + 1 := ⟨k - 1, by simp at hk; omega⟩
    have g0 : (a ++ b :: u)[a.length]? = some b := by simp
    have hb : Plain b := hP b (by simp)
    unfold Plain at hb
    simp only [List.mem_cons, List.not_mem_nil, or_false, not_or] at hb
    obtain ⟨h1, h2, h3, h4, h5, h6, h7, h8, h9, h10, h11, h12, h13, h14⟩ := hb
    have hp : pPart f (a ++ b :: u) a.length = .ok (.byte (fun x => x == b), a.length + 1) := by
      unfold pPart
      simp only [g0]
      rw [if_neg h5, if_neg h7, if_neg (by omega), if_neg h13, if_neg h14]
    have hs : NoSign (a ++ b :: u)[a.length + 1]? := by
      have e : (a ++ b :: u)[a.length + 1]? = u[0]? := by rw [List.getElem?_append_right (by omega)]; simp
      rw [e]
      refine ⟨?_, ?_, ?_⟩ <;> intro h <;> have hh := hP _ (List.mem_cons_of_mem b (List.mem_of_getElem? h)) <;> exact hh (by simp)
    rw [parts_step (by simp) (by rw [g0]; simpa using h4) (by rw [g0]; simpa using h6) (times_plain hp hs)]
    have := plain_parts u (a ++ [b]) f k (l ++ [.byte (fun x => x == b)]) (fun c hc => hP c (by simp [hc])) (by simp at hk; omega)
    simp only [List.append_assoc, List.singleton_append, List.length_append, List.length_cons, List.length_nil, Nat.zero_add] at this
    rw [this]
    simp [lits]
theorem plain_parse (u : List Nat) (h : u.length ≤ 64) (hP : ∀ b, b ∈ u → Plain b) : parse u = .ok (.either [.row (lits u)]) := by
  refine parse_row h ?_
  have := plain_parts u [] (pPat u 7) (u.length + 1) [] hP (by omega)
  simpa using this

theorem LRow_lits : ∀ (u t : List Nat), LRow (lits u) t ↔ t = u
  | [], t => by simp [lits, LRow]
  | b :: u, t => by
    have ih := LRow_lits u
    simp only [lits, List.map_cons] at ih ⊢
    constructor
    · intro h
      unfold LRow at h
      obtain ⟨x, y, rfl, h1, h2⟩ := h
      unfold L at h1
      obtain ⟨c, rfl, hc⟩ := h1
      rw [ih] at h2
      subst h2
      have : c = b := by simpa using hc
      subst this
      rfl
    · rintro rfl
      unfold LRow
      refine ⟨[b], u, rfl, ?_, (ih u).2 rfl⟩
      unfold L
      exact ⟨b, rfl, by simp⟩
end Rx
theorem mt_lits (u t : List Nat) : mt (.either [.row (Rx.lits u)]) t = decide (t = u) := by
  have h : Rx.L (.either [.row (Rx.lits u)]) t ↔ t = u := by
    simp only [Rx.L, Rx.LAny, or_false]
    exact Rx.LRow_lits u t
  by_cases e : t = u
  · rw [decide_eq_true e]; exact mt_true (h.2 e)
  · rw [decide_eq_false e]; exact mt_false (fun hh => e (h.1 hh))
theorem bys_inj {s t : ByteArray} (h : bys s = bys t) : s = t := by
  unfold bys at h
  obtain ⟨⟨l⟩⟩ := s
  obtain ⟨⟨m⟩⟩ := t
  have : l = m := by
    simp only at h
    exact (List.map_inj_right (fun a b hh => UInt8.toNat_inj.1 hh)).1 h
  rw [this]
theorem bys_eq (s t : ByteArray) : decide (bys s = bys t) = decide (s = t) := by
  by_cases e : s = t
  · rw [decide_eq_true e, e]; simp
  · rw [decide_eq_false e]; exact decide_eq_false (fun h => e (bys_inj h))
theorem index_mem (c : UInt8) : ∀ l : List UInt8, 0 ≤ Lib.indexByte l c ↔ c ∈ l
  | [] => by simp [Lib.indexByte]
  | b :: l => by
    have ih := index_mem c l
    have hg := Lib.indexByte_ge l c
    unfold Lib.indexByte
    by_cases hb : b = c
    · subst hb; simp
    · rw [if_neg (by simpa using hb)]
      by_cases hm : c ∈ l
      · have := ih.2 hm
        rw [if_neg (by simp; omega)]
        simp [hm]; omega
      · have : Lib.indexByte l c = -1 := by
          have : ¬ 0 ≤ Lib.indexByte l c := fun h => hm (ih.1 h)
          omega
        rw [if_pos (by rw [this]; rfl)]
        simp [hm, Ne.symm hb]
def specials : List UInt8 := [42, 43, 63, 124, 40, 41, 91, 93, 123, 125, 94, 36, 46, 92]
open Classical in
theorem special_plain (c : UInt8) : decide (0 ≤ Lib.indexByte specials c) = !decide (Rx.Plain c.toNat) := by
  have h : c ∈ specials ↔ ¬ Rx.Plain c.toNat := by
    unfold Rx.Plain
    rw [Classical.not_not]
    have e : [42, 43, 63, 124, 40, 41, 91, 93, 123, 125, 94, 36, 46, 92] = specials.map UInt8.toNat := rfl
    rw [e, List.mem_map]
    exact ⟨fun hm => ⟨c, hm, rfl⟩, fun ⟨d, hd, he⟩ => by rw [← UInt8.toNat_inj.1 he]; exact hd⟩
  by_cases hp : Rx.Plain c.toNat
  · rw [decide_eq_true hp, decide_eq_false (fun hi => h.1 ((index_mem c _).1 hi) hp)]; rfl
  · rw [decide_eq_false hp, decide_eq_true ((index_mem c _).2 (h.2 hp))]; rfl
end Go.Proofs.Ytaaonhaighdlaaa
