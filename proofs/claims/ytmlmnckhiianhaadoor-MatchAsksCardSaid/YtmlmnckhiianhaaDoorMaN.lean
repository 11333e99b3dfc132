/- The document's Quote, walked. -/
import Derived.Test.YtmlmnckhiianhaaDoorMaL
import Derived.Test.YtmlmnckhiianhaaDoorProg
import Derived.Test.YtmlmnckhiianhaaDoorMem
import Derived.Deep.QuietTactic
import Derived.BigQuiet
import Derived.WalkLawsBesides
import Derived.WalkSpells
import Derived.RegionTactic
import Derived.BigRegion
import Derived.Deep.LoopGhost
import Derived.Lib.Hide
namespace Go.Proofs.YtmlmnckhiianhaaDoor
set_option linter.unusedVariables false

/-- A text between quotes, without the first. -/
def esc : List Nat → List Nat
  | [] => [34]
  | c :: r => (if c = 10 then [92, 110] else if c = 34 ∨ c = 92 then [92, c] else [c]) ++ esc r
theorem uq_esc_back : ∀ (n : Nat) (u : List Nat) (p : List Nat × List Nat), u.length ≤ n → uq u = some p → u = esc p.1 ++ p.2
  | 0, u, p, hn, h => by
    have : u = [] := List.length_eq_zero_iff.1 (by omega)
    subst this; simp [uq] at h
  | n + 1, [], p, hn, h => by simp [uq] at h
  | n + 1, [c], p, hn, h => by
    unfold uq at h
    split at h
    · rename_i hc; injection h with h; subst h; subst hc; rfl
    · cases h
  | n + 1, c :: d :: q, p, hn, h => by
    unfold uq at h
    simp at hn
    split at h
    · rename_i hc; injection h with h; subst h; subst hc; rfl
    · rename_i h34
      split at h
      · cases h
      · rename_i h10
        split at h
        · rename_i h92
          subst h92
          split at h
          · rename_i h110
            subst h110
            obtain ⟨y, hy, rfl⟩ := Option.map_eq_some_iff.1 h
            have := uq_esc_back n q y (by omega) hy
            simp [esc]
            exact this
          · split at h
            · rename_i h110 hd
              obtain ⟨y, hy, rfl⟩ := Option.map_eq_some_iff.1 h
              have := uq_esc_back n q y (by omega) hy
              have hne : d ≠ 10 := by omega
              simp only [esc, if_neg hne, if_pos hd]
              simp
              exact this
            · cases h
        · rename_i h92
          obtain ⟨y, hy, rfl⟩ := Option.map_eq_some_iff.1 h
          have := uq_esc_back n (d :: q) y (by simp; omega) hy
          have hno : ¬ (c = 34 ∨ c = 92) := by omega
          simp only [esc, if_neg h10, if_neg hno]
          simp
          exact this
/-- A matcher as a text. -/
def printM (m : Mat) : List Nat := m.name ++ (pre m.op.toNat ++ (34 :: esc m.value))
theorem opAt_pb' {v : List Nat} : ∀ {i k : Nat}, opAt v i = (k : Int) → pb v k = true ∧ k < i
  | 0, k, h => by unfold opAt at h; omega
  | i + 1, k, h => by
    unfold opAt at h
    by_cases hp : pb v i = true
    · rw [if_pos hp] at h
      obtain rfl : i = k := by omega
      exact ⟨hp, by omega⟩
    · rw [if_neg hp] at h
      obtain ⟨h1, h2⟩ := opAt_pb' h
      exact ⟨h1, by omega⟩
theorem oneP_back {u : List Nat} {p : Mat × List Nat} (h : oneP u = some p) : u = printM p.1 ++ p.2 := by
  unfold oneP at h
  split at h
  · cases h
  · rename_i hneg
    obtain ⟨y, hy, rfl⟩ := Option.map_eq_some_iff.1 h
    obtain ⟨k, hk⟩ : ∃ k : Nat, opAt (u.dropWhile nk) 4 = (k : Int) := ⟨(opAt (u.dropWhile nk) 4).toNat, by omega⟩
    obtain ⟨hpb, _⟩ := opAt_pb' hk
    rw [hk, Int.toNat_natCast] at hy
    unfold pb at hpb
    obtain ⟨t, ht⟩ := List.isPrefixOf_iff_prefix.1 hpb
    rw [← ht, List.append_assoc, List.drop_left] at hy
    change (if 34 = 34 then uq t else none) = some y at hy
    rw [if_pos rfl] at hy
    have e := uq_esc_back _ t y (Nat.le_refl _) hy
    have hu : u = u.takeWhile nk ++ u.dropWhile nk := (List.takeWhile_append_dropWhile).symm
    show u = (u.takeWhile nk ++ (pre (opAt (u.dropWhile nk) 4).toNat ++ (34 :: esc y.1))) ++ y.2
    rw [hk, Int.toNat_natCast]
    conv => lhs; rw [hu, ← ht, e]
    simp
/-- Matchers as a text, behind the brace that opens; first: none stands ahead. -/
def printJ : Bool → List Mat → List Nat
  | _, [] => [125]
  | true, m :: l => printM m ++ printJ false l
  | false, m :: l => 44 :: (printM m ++ printJ false l)
def printAll (l : List Mat) : List Nat := 123 :: printJ true l
theorem parseL_back : ∀ (n : Nat) (acc : List Mat) (u : List Nat) (L : List Mat), parseL n acc u = some L → ∃ l, L = acc ++ l ∧ u = printJ acc.isEmpty l
  | 0, acc, u, L, h => by simp [parseL] at h
  | n + 1, acc, u, L, h => by
    unfold parseL at h
    by_cases hu : u = [125]
    · rw [if_pos hu] at h
      injection h with h
      exact ⟨[], by rw [← h]; simp, by rw [hu]; cases acc.isEmpty <;> rfl⟩
    · rw [if_neg hu] at h
      have hne : ∀ m : Mat, (acc ++ [m]).isEmpty = false := fun m => by cases acc <;> rfl
      cases ha : acc.isEmpty with
      | true =>
        rw [ha, if_pos rfl] at h
        cases hp : oneP u with
        | none => rw [hp] at h; cases h
        | some p =>
          rw [hp] at h
          obtain ⟨l, h1, h2⟩ := parseL_back n _ _ L h
          rw [hne] at h2
          exact ⟨p.1 :: l, by rw [h1]; simp, by rw [oneP_back hp, h2]; rfl⟩
      | false =>
        rw [ha, if_neg (by decide)] at h
        split at h
        · rename_i r
          cases hp : oneP r with
          | none => rw [hp] at h; cases h
          | some p =>
            rw [hp] at h
            obtain ⟨l, h1, h2⟩ := parseL_back n _ _ L h
            rw [hne] at h2
            exact ⟨p.1 :: l, by rw [h1]; simp, by rw [oneP_back hp, h2]; rfl⟩
        · cases h
/-- What is read is printed as it was. -/
theorem parseM_back {u : List Nat} {L : List Mat} (h : parseM u = some L) : u = printAll L := by
  unfold parseM at h
  split at h
  · obtain ⟨l, h1, h2⟩ := parseL_back _ _ _ _ h
    rw [List.nil_append] at h1
    subst h1
    unfold printAll
    rw [h2]; rfl
  · cases h
end Go.Proofs.YtmlmnckhiianhaaDoor

namespace Go.Proofs.YtmlmnckhiianhaaDoor
open Go.RowKit
set_option linter.unusedVariables false
set_option linter.unusedSimpArgs false

theorem bys_app (a b : ByteArray) : bys (a ++ b) = bys a ++ bys b := by
  unfold bys
  rw [ByteArray.data_append, Array.toList_append, List.map_append]

theorem bys_one (s : ByteArray) (i : Nat) (h : i < s.size) : bys (s.extract i (i + 1)) = [s[i].toNat] := by
  have hb := bys_get s i h
  unfold bys at hb ⊢
  rw [ByteArray.data_extract, Array.toList_extract, List.extract]
  have e : i + 1 - i = 1 := by omega
  rw [e, List.map_take, List.map_drop, drop_get hb]
  rfl
theorem esc_two {c : Nat} {r : List Nat} (h : ¬ c = 10) (h2 : c = 34 ∨ c = 92) : esc (c :: r) = 92 :: c :: esc r := by
  simp only [esc, if_neg h, if_pos h2]; rfl
theorem esc_one {c : Nat} {r : List Nat} (h : ¬ c = 10) (h2 : ¬ (c = 34 ∨ c = 92)) : esc (c :: r) = c :: esc r := by
  simp only [esc, if_neg h, if_neg h2]; rfl
theorem esc_len : ∀ u : List Nat, u.length + 1 ≤ (esc u).length
  | [] => by simp [esc]
  | c :: r => by
    have ih := esc_len r
    unfold esc
    rw [List.length_append, List.length_cons]
    repeat' split
    all_goals (simp only [List.length_cons, List.length_nil]; omega)

set_option maxRecDepth 100000 in
set_option maxHeartbeats 1000000 in
theorem quote_calls (s : ByteArray) (hT : (esc (bys s)).length ≤ 4611686018427387904) (w : World) : Calls Tryd.prog 28 #[.string s] w fun e w' => ∃ q : ByteArray, e = .returned (.string q) ∧ bys q = 34 :: esc (bys s) ∧ w' = w := by
  have hss : s.size < 4611686018427387904 := by have := esc_len (bys s); rw [bys_len] at this; omega
  have HT := Lib.hid hT
  clear hT
  go_enter Tryd.func28, Tryd.ntmps28
  go_wp2
  go_loopg [3, 4] (s.size + 1) (fun k u3 u4 wr => ∃ (i : Nat) (q : ByteArray), u3 = .string q ∧ u4 = .int .i64 (i : Int) ∧ i + k = s.size + 1 ∧ i ≤ s.size ∧ Hid (bys q ++ esc ((bys s).drop i) = 34 :: esc (bys s)) ∧ wr = w)
  case atStart => exact ⟨0, ⟨#[34]⟩, rfl, rfl, by omega, by omega, Lib.hid rfl, rfl⟩
  case round =>
    obtain ⟨i, q, rfl, rfl, hik, hil, HQ, rfl⟩ := hrel
    have hql : q.size + (esc ((bys s).drop i)).length = (esc (bys s)).length + 1 := by
      have := congrArg List.length HQ.out
      rw [List.length_append, bys_len] at this
      simpa using this
    by_cases hi : i < s.size
    · have hc1 : decide (i < s.size) = true := decide_eq_true hi
      have hc2 : (i : Int) < (s.size : Int) := by omega
      have hc3 : (0 : Int) ≤ (i : Int) := by omega
      have HD := Lib.hid (drop_get (bys_get s i hi))
      rw [HD.out] at hql
      have hw1 : IntKind.i64.wrap ((i : Int) + 1) = (i : Int) + 1 := IntWalk.i64_in _ (by omega)
      have hs1 : (0 : Int) ≤ (i : Int) ∧ (i : Int) ≤ (i : Int) + 1 ∧ (i : Int) + 1 ≤ (s.size : Int) := by omega
      have hq9 : q.size + 4 ≤ 9223372036854775807 := by have := HT.out; have := esc_len ((bys s).drop (i + 1)); simp only [esc, List.length_append] at hql; (repeat' split at hql) <;> (simp at hql; omega)
      have hq1 : ¬ (9223372036854775807 < q.size + 1) := by omega
      have hq2 : ¬ (9223372036854775807 < q.size + 2) := by omega
      have hq3 : ¬ (9223372036854775807 < q.size + (⟨#[92, 110]⟩ : ByteArray).size) := by have : (⟨#[92, 110]⟩ : ByteArray).size = 2 := rfl; omega
      have hq4 : ¬ (9223372036854775807 < q.size + (⟨#[92]⟩ : ByteArray).size) := by have : (⟨#[92]⟩ : ByteArray).size = 1 := rfl; omega
      have hxs : (s.extract i (i + 1)).size = 1 := by rw [← bys_len, bys_one s i hi]; rfl
      have hq5 : ¬ (9223372036854775807 < q.size + (s.extract i (i + 1)).size) := by omega
      have hq6 : ¬ (9223372036854775807 < (q ++ ⟨#[92]⟩).size + (s.extract i (i + 1)).size) := by have h2 : (⟨#[92]⟩ : ByteArray).size = 1 := rfl; rw [ByteArray.size_append]; omega
      have HX := Lib.hid (bys_one s i hi)
      clear hql hq9
      by_cases r10 : s[i].toNat = 10
      · have e10 : ((s[i].toNat : Int) == 10) = true := by rw [r10]; rfl
        have HI := Lib.hid (show bys (q ++ ⟨#[92, 110]⟩) ++ esc ((bys s).drop (i + 1)) = 34 :: esc (bys s) by rw [bys_app, ← HQ.out, HD.out, r10]; simp [esc, bys])
        clear r10
        go_wp2
        go_roundg (gk - 1)
        case measure => omega
        case rel => exact ⟨i + 1, _, rfl, by go_num, by omega, by omega, HI, rfl⟩
      · have e10 : ((s[i].toNat : Int) == 10) = false := by simp; omega
        by_cases re : s[i].toNat = 34 ∨ s[i].toNat = 92
        · have HI := Lib.hid (show bys (q ++ ⟨#[92]⟩ ++ s.extract i (i + 1)) ++ esc ((bys s).drop (i + 1)) = 34 :: esc (bys s) by rw [bys_app, bys_app, HX.out, ← HQ.out, HD.out]; rw [esc_two r10 re]; simp [bys])
          rcases re with r34 | r92
          · have e34 : ((s[i].toNat : Int) == 34) = true := by rw [r34]; rfl
            clear r10 r34
            go_wp2
            go_roundg (gk - 1)
            case measure => omega
            case rel => exact ⟨i + 1, _, rfl, by go_num, by omega, by omega, HI, rfl⟩
          · have e34 : ((s[i].toNat : Int) == 34) = false := by rw [r92]; rfl
            have e92 : ((s[i].toNat : Int) == 92) = true := by rw [r92]; rfl
            clear r10 r92
            go_wp2
            go_roundg (gk - 1)
            case measure => omega
            case rel => exact ⟨i + 1, _, rfl, by go_num, by omega, by omega, HI, rfl⟩
        · have HI := Lib.hid (show bys (q ++ s.extract i (i + 1)) ++ esc ((bys s).drop (i + 1)) = 34 :: esc (bys s) by rw [bys_app, HX.out, ← HQ.out, HD.out]; rw [esc_one r10 re]; simp)
          have e34 : ((s[i].toNat : Int) == 34) = false := by simp; omega
          have e92 : ((s[i].toNat : Int) == 92) = false := by simp; omega
          clear r10 re
          go_wp2
          go_roundg (gk - 1)
          case measure => omega
          case rel => exact ⟨i + 1, _, rfl, by go_num, by omega, by omega, HI, rfl⟩
    · have hc1 : decide (i < s.size) = false := decide_eq_false hi
      obtain rfl : i = s.size := by omega
      have HI := Lib.hid (show bys (q ++ ⟨#[34]⟩) = 34 :: esc (bys s) by
        rw [bys_app, ← HQ.out, List.drop_eq_nil_of_le (by rw [bys_len]; exact Nat.le_refl _)]; rfl)
      have hq9 : q.size + 1 ≤ 9223372036854775807 := by have := HT.out; rw [List.drop_eq_nil_of_le (by rw [bys_len]; exact Nat.le_refl _)] at hql; simp [esc] at hql; omega
      have hq1 : ¬ (9223372036854775807 < q.size + 1) := by omega
      have hq4 : ¬ (9223372036854775807 < q.size + (⟨#[34]⟩ : ByteArray).size) := by have : (⟨#[34]⟩ : ByteArray).size = 1 := rfl; omega
      clear hql hq9
      go_wp2
      go_ret
      exact ⟨_, rfl, HI.out, rfl⟩
end Go.Proofs.YtmlmnckhiianhaaDoor
