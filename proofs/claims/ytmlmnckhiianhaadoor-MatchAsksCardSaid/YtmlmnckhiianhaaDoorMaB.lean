/- Names of labels, walked: the program's and the document's. -/
import Derived.Test.YtmlmnckhiianhaaDoorProg
import Derived.Test.YtmlmnckhiianhaaDoorMem
import Derived.Test.YtmlmnckhiianhaaDoorMaA
import Derived.Deep.QuietTactic
import Derived.BigQuiet
import Derived.WalkLawsBesides
import Derived.WalkSpells
import Derived.RegionTactic
import Derived.BigRegion
import Derived.Deep.LoopGhost
import Derived.Lib.Hide
namespace Go.Proofs.YtmlmnckhiianhaaDoor
open Go.RowKit
set_option linter.unusedVariables false
set_option linter.unusedSimpArgs false






set_option maxRecDepth 100000 in
set_option maxHeartbeats 4000000 in
theorem name_calls (s : ByteArray) (w : World) : Calls Tryd.prog 34 #[.string s] w fun e w' => e = .returned (.bool (nameOK (bys s))) ∧ Below w.heap.size w w' := by
  by_cases h1 : s.size = 0
  · have hs : s.toList = [] := by
      obtain ⟨⟨l⟩⟩ := s
      rw [ByteArray.toList_eq]
      exact List.length_eq_zero_iff.1 h1
    have hn : nameOK (bys s) = false := by unfold nameOK; rw [bys_len, h1]; rfl
    rw [hn]
    clear hn h1
    go_enter Tryd.func34, Tryd.ntmps34
    go_wp2
    go_ret
    exact ⟨rfl, Below.refl _ _⟩
  have hne : ¬ s.toList = [] := by
    intro h
    obtain ⟨⟨l⟩⟩ := s
    rw [ByteArray.toList_eq] at h
    exact h1 (by simp at h; subst h; rfl)
  have hne2 : s.toList.isEmpty = false := by
    cases h : s.toList with
    | nil => exact absurd h hne
    | cons a l => rfl
  by_cases h2 : 64 < s.size
  · have hn : nameOK (bys s) = false := by
      unfold nameOK
      rw [bys_len]
      have : decide (s.size ≤ 64) = false := decide_eq_false (by omega)
      rw [this, Bool.and_false]; rfl
    rw [hn]
    have h3 : decide ((64 : Int) < (s.size : Int)) = true := decide_eq_true (by omega)
    clear hn
    go_enter Tryd.func34, Tryd.ntmps34
    go_wp2
    go_ret
    exact ⟨rfl, Below.refl _ _⟩
  have h3 : decide ((64 : Int) < (s.size : Int)) = false := decide_eq_false (by omega)
  have hok : nameOK (bys s) = nameFrom 0 (bys s) := by
    unfold nameOK
    rw [bys_len]
    have e1 : decide (1 ≤ s.size) = true := decide_eq_true (by omega)
    have e2 : decide (s.size ≤ 64) = true := decide_eq_true (by omega)
    rw [e1, e2]; rfl
  rw [hok]
  clear hok
  go_enter Tryd.func34, Tryd.ntmps34
  go_wp2
  go_loopg [15] (s.size + 1) (fun k u15 wr => ∃ i : Nat, u15 = .int .i64 (i : Int) ∧ i + k = s.size + 1 ∧ i ≤ s.size ∧ Hid (nameFrom 0 ((bys s).take i) = true) ∧ wr = w)
  case atStart => exact ⟨0, rfl, by omega, by omega, Lib.hid rfl, rfl⟩
  case round =>
    obtain ⟨i, rfl, hik, his, HN, rfl⟩ := hrel
    by_cases hi : i < s.size
    · have hc1 : decide (i < s.size) = true := decide_eq_true hi
      have hi3 : (0 : Int) ≤ (i : Int) := by omega
      have hi4 : (i : Int) < (s.size : Int) := by omega
      have HB := Lib.hid (bys_get s i hi)
      have hcb : s[i].toNat < 256 := UInt8.toNat_lt _
      have hbad : (lowCh s[i].toNat || (decide (0 < i) && digCh s[i].toNat)) = false → nameFrom 0 (bys s) = false := fun h => nameFrom_bad (i := i + 1) (by rw [nameFrom_take HB.out, h, Bool.and_false])
      by_cases r1 : 97 ≤ s[i].toNat
      · by_cases r2 : s[i].toNat ≤ 122
        · have f97 : decide ((97 : Int) ≤ (s[i].toNat : Int)) = true := decide_eq_true (by omega)
          have f122 : decide ((s[i].toNat : Int) ≤ 122) = true := decide_eq_true (by omega)
          have HS : Hid ((lowCh s[i].toNat || (decide (0 < i) && digCh s[i].toNat)) = true) := Lib.hid (by unfold lowCh digCh; rw [Bool.eq_iff_iff]; simp only [Bool.or_eq_true, Bool.and_eq_true, decide_eq_true_eq, beq_iff_eq, Bool.false_eq_true, iff_true, iff_false, true_iff, false_iff]; omega)
          go_wp2
          go_roundg (gk - 1)
          case measure => omega
          case rel => exact ⟨i + 1, by go_num, by omega, by omega, Lib.hid (by rw [nameFrom_take HB.out, HN.out, Bool.true_and]; exact HS.out), rfl⟩
        · have f97 : decide ((97 : Int) ≤ (s[i].toNat : Int)) = true := decide_eq_true (by omega)
          have f122 : decide ((s[i].toNat : Int) ≤ 122) = false := decide_eq_false (by omega)
          have f65 : decide ((65 : Int) ≤ (s[i].toNat : Int)) = true := decide_eq_true (by omega)
          have f90 : decide ((s[i].toNat : Int) ≤ 90) = false := decide_eq_false (by omega)
          have e95 : ((s[i].toNat : Int) == 95) = false := by simp; omega
          have f48 : decide ((s[i].toNat : Int) < 48) = false := decide_eq_false (by omega)
          have f57 : decide ((57 : Int) < (s[i].toNat : Int)) = true := decide_eq_true (by omega)
          by_cases i0 : i = 0
          · have ei : ((i : Int) == 0) = true := by simp; omega
            have HS : Hid ((lowCh s[i].toNat || (decide (0 < i) && digCh s[i].toNat)) = false) := Lib.hid (by unfold lowCh digCh; rw [Bool.eq_iff_iff]; simp only [Bool.or_eq_true, Bool.and_eq_true, decide_eq_true_eq, beq_iff_eq, Bool.false_eq_true, iff_true, iff_false, true_iff, false_iff]; omega)
            clear i0
            go_wp2
            go_ret
            exact ⟨congrArg (fun b => Ending.returned (.bool b)) (hbad HS.out).symm, Below.refl _ _⟩
          · have ei : ((i : Int) == 0) = false := by simp; omega
            have HS : Hid ((lowCh s[i].toNat || (decide (0 < i) && digCh s[i].toNat)) = false) := Lib.hid (by unfold lowCh digCh; rw [Bool.eq_iff_iff]; simp only [Bool.or_eq_true, Bool.and_eq_true, decide_eq_true_eq, beq_iff_eq, Bool.false_eq_true, iff_true, iff_false, true_iff, false_iff]; omega)
            clear i0
            go_wp2
            go_ret
            exact ⟨congrArg (fun b => Ending.returned (.bool b)) (hbad HS.out).symm, Below.refl _ _⟩
      · have f97 : decide ((97 : Int) ≤ (s[i].toNat : Int)) = false := decide_eq_false (by omega)
        by_cases r3 : 65 ≤ s[i].toNat
        · have f65 : decide ((65 : Int) ≤ (s[i].toNat : Int)) = true := decide_eq_true (by omega)
          by_cases r4 : s[i].toNat ≤ 90
          · have f90 : decide ((s[i].toNat : Int) ≤ 90) = true := decide_eq_true (by omega)
            have HS : Hid ((lowCh s[i].toNat || (decide (0 < i) && digCh s[i].toNat)) = true) := Lib.hid (by unfold lowCh digCh; rw [Bool.eq_iff_iff]; simp only [Bool.or_eq_true, Bool.and_eq_true, decide_eq_true_eq, beq_iff_eq, Bool.false_eq_true, iff_true, iff_false, true_iff, false_iff]; omega)
            go_wp2
            go_roundg (gk - 1)
            case measure => omega
            case rel => exact ⟨i + 1, by go_num, by omega, by omega, Lib.hid (by rw [nameFrom_take HB.out, HN.out, Bool.true_and]; exact HS.out), rfl⟩
          · have f90 : decide ((s[i].toNat : Int) ≤ 90) = false := decide_eq_false (by omega)
            by_cases r5 : s[i].toNat = 95
            · have e95 : ((s[i].toNat : Int) == 95) = true := by simp; omega
              have HS : Hid ((lowCh s[i].toNat || (decide (0 < i) && digCh s[i].toNat)) = true) := Lib.hid (by unfold lowCh digCh; rw [Bool.eq_iff_iff]; simp only [Bool.or_eq_true, Bool.and_eq_true, decide_eq_true_eq, beq_iff_eq, Bool.false_eq_true, iff_true, iff_false, true_iff, false_iff]; omega)
              go_wp2
              go_roundg (gk - 1)
              case measure => omega
              case rel => exact ⟨i + 1, by go_num, by omega, by omega, Lib.hid (by rw [nameFrom_take HB.out, HN.out, Bool.true_and]; exact HS.out), rfl⟩
            · have e95 : ((s[i].toNat : Int) == 95) = false := by simp; omega
              have f48 : decide ((s[i].toNat : Int) < 48) = false := decide_eq_false (by omega)
              have f57 : decide ((57 : Int) < (s[i].toNat : Int)) = true := decide_eq_true (by omega)
              by_cases i0 : i = 0
              · have ei : ((i : Int) == 0) = true := by simp; omega
                have HS : Hid ((lowCh s[i].toNat || (decide (0 < i) && digCh s[i].toNat)) = false) := Lib.hid (by unfold lowCh digCh; rw [Bool.eq_iff_iff]; simp only [Bool.or_eq_true, Bool.and_eq_true, decide_eq_true_eq, beq_iff_eq, Bool.false_eq_true, iff_true, iff_false, true_iff, false_iff]; omega)
                clear i0
                go_wp2
                go_ret
                exact ⟨congrArg (fun b => Ending.returned (.bool b)) (hbad HS.out).symm, Below.refl _ _⟩
              · have ei : ((i : Int) == 0) = false := by simp; omega
                have HS : Hid ((lowCh s[i].toNat || (decide (0 < i) && digCh s[i].toNat)) = false) := Lib.hid (by unfold lowCh digCh; rw [Bool.eq_iff_iff]; simp only [Bool.or_eq_true, Bool.and_eq_true, decide_eq_true_eq, beq_iff_eq, Bool.false_eq_true, iff_true, iff_false, true_iff, false_iff]; omega)
                clear i0
                go_wp2
                go_ret
                exact ⟨congrArg (fun b => Ending.returned (.bool b)) (hbad HS.out).symm, Below.refl _ _⟩
        · have f65 : decide ((65 : Int) ≤ (s[i].toNat : Int)) = false := decide_eq_false (by omega)
          have e95 : ((s[i].toNat : Int) == 95) = false := by simp; omega
          by_cases i0 : i = 0
          · have ei : ((i : Int) == 0) = true := by simp; omega
            have HS : Hid ((lowCh s[i].toNat || (decide (0 < i) && digCh s[i].toNat)) = false) := Lib.hid (by unfold lowCh digCh; rw [Bool.eq_iff_iff]; simp only [Bool.or_eq_true, Bool.and_eq_true, decide_eq_true_eq, beq_iff_eq, Bool.false_eq_true, iff_true, iff_false, true_iff, false_iff]; omega)
            clear i0
            go_wp2
            go_ret
            exact ⟨congrArg (fun b => Ending.returned (.bool b)) (hbad HS.out).symm, Below.refl _ _⟩
          · have ei : ((i : Int) == 0) = false := by simp; omega
            by_cases r6 : s[i].toNat < 48
            · have f48 : decide ((s[i].toNat : Int) < 48) = true := decide_eq_true (by omega)
              have HS : Hid ((lowCh s[i].toNat || (decide (0 < i) && digCh s[i].toNat)) = false) := Lib.hid (by unfold lowCh digCh; rw [Bool.eq_iff_iff]; simp only [Bool.or_eq_true, Bool.and_eq_true, decide_eq_true_eq, beq_iff_eq, Bool.false_eq_true, iff_true, iff_false, true_iff, false_iff]; omega)
              clear i0
              go_wp2
              go_ret
              exact ⟨congrArg (fun b => Ending.returned (.bool b)) (hbad HS.out).symm, Below.refl _ _⟩
            · have f48 : decide ((s[i].toNat : Int) < 48) = false := decide_eq_false (by omega)
              by_cases r7 : 57 < s[i].toNat
              · have f57 : decide ((57 : Int) < (s[i].toNat : Int)) = true := decide_eq_true (by omega)
                have HS : Hid ((lowCh s[i].toNat || (decide (0 < i) && digCh s[i].toNat)) = false) := Lib.hid (by unfold lowCh digCh; rw [Bool.eq_iff_iff]; simp only [Bool.or_eq_true, Bool.and_eq_true, decide_eq_true_eq, beq_iff_eq, Bool.false_eq_true, iff_true, iff_false, true_iff, false_iff]; omega)
                clear i0
                go_wp2
                go_ret
                exact ⟨congrArg (fun b => Ending.returned (.bool b)) (hbad HS.out).symm, Below.refl _ _⟩
              · have f57 : decide ((57 : Int) < (s[i].toNat : Int)) = false := decide_eq_false (by omega)
                have HS : Hid ((lowCh s[i].toNat || (decide (0 < i) && digCh s[i].toNat)) = true) := Lib.hid (by unfold lowCh digCh; rw [Bool.eq_iff_iff]; simp only [Bool.or_eq_true, Bool.and_eq_true, decide_eq_true_eq, beq_iff_eq, Bool.false_eq_true, iff_true, iff_false, true_iff, false_iff]; omega)
                clear i0
                go_wp2
                go_roundg (gk - 1)
                case measure => omega
                case rel => exact ⟨i + 1, by go_num, by omega, by omega, Lib.hid (by rw [nameFrom_take HB.out, HN.out, Bool.true_and]; exact HS.out), rfl⟩
    · have hc1 : decide (i < s.size) = false := decide_eq_false hi
      obtain rfl : i = s.size := by omega
      have hall : nameFrom 0 (bys s) = true := by have := HN.out; rwa [List.take_of_length_le (by rw [bys_len]; exact Nat.le_refl _)] at this
      go_wp2
      go_ret
      exact ⟨congrArg (fun b => Ending.returned (.bool b)) hall.symm, Below.refl _ _⟩

set_option maxRecDepth 100000 in
set_option maxHeartbeats 4000000 in
theorem refName_calls (s : ByteArray) (w : World) : Calls Tryd.prog 20 #[.string s] w fun e w' => e = .returned (.bool (nameOK (bys s))) ∧ Below w.heap.size w w' := by
  by_cases h1 : s.size < 1
  · have hn : nameOK (bys s) = false := by
      unfold nameOK; rw [bys_len]
      have : decide (1 ≤ s.size) = false := decide_eq_false (by omega)
      rw [this]; rfl
    rw [hn]
    have h2 : decide ((s.size : Int) < 1) = true := decide_eq_true (by omega)
    clear hn
    go_enter Tryd.func20, Tryd.ntmps20
    go_wp2
    go_ret
    exact ⟨rfl, Below.refl _ _⟩
  have h2 : decide ((s.size : Int) < 1) = false := decide_eq_false (by omega)
  by_cases h4 : 64 < s.size
  · have hn : nameOK (bys s) = false := by
      unfold nameOK
      rw [bys_len]
      have : decide (s.size ≤ 64) = false := decide_eq_false (by omega)
      rw [this, Bool.and_false]; rfl
    rw [hn]
    have h3 : decide ((64 : Int) < (s.size : Int)) = true := decide_eq_true (by omega)
    clear hn
    go_enter Tryd.func20, Tryd.ntmps20
    go_wp2
    go_ret
    exact ⟨rfl, Below.refl _ _⟩
  have h3 : decide ((64 : Int) < (s.size : Int)) = false := decide_eq_false (by omega)
  have hok : nameOK (bys s) = nameFrom 0 (bys s) := by
    unfold nameOK
    rw [bys_len]
    have e1 : decide (1 ≤ s.size) = true := decide_eq_true (by omega)
    have e2 : decide (s.size ≤ 64) = true := decide_eq_true (by omega)
    rw [e1, e2]; rfl
  rw [hok]
  clear hok
  go_enter Tryd.func20, Tryd.ntmps20
  go_wp2
  go_loopg [3] (s.size + 1) (fun k u15 wr => ∃ i : Nat, u15 = .int .i64 (i : Int) ∧ i + k = s.size + 1 ∧ i ≤ s.size ∧ Hid (nameFrom 0 ((bys s).take i) = true) ∧ wr = w)
  case atStart => exact ⟨0, rfl, by omega, by omega, Lib.hid rfl, rfl⟩
  case round =>
    obtain ⟨i, rfl, hik, his, HN, rfl⟩ := hrel
    by_cases hi : i < s.size
    · have hc1 : decide (i < s.size) = true := decide_eq_true hi
      have hi3 : (0 : Int) ≤ (i : Int) := by omega
      have hi4 : (i : Int) < (s.size : Int) := by omega
      have HB := Lib.hid (bys_get s i hi)
      have hcb : s[i].toNat < 256 := UInt8.toNat_lt _
      have hbad : (lowCh s[i].toNat || (decide (0 < i) && digCh s[i].toNat)) = false → nameFrom 0 (bys s) = false := fun h => nameFrom_bad (i := i + 1) (by rw [nameFrom_take HB.out, h, Bool.and_false])
      by_cases r0 : s[i].toNat = 95
      · have e95 : ((s[i].toNat : Int) == 95) = true := by simp; omega
        have HS : Hid ((lowCh s[i].toNat || (decide (0 < i) && digCh s[i].toNat)) = true) := Lib.hid (by unfold lowCh digCh; rw [Bool.eq_iff_iff]; simp only [Bool.or_eq_true, Bool.and_eq_true, decide_eq_true_eq, beq_iff_eq, Bool.false_eq_true, iff_true, iff_false, true_iff, false_iff]; omega)
        go_wp2
        go_roundg (gk - 1)
        case measure => omega
        case rel => exact ⟨i + 1, by go_num, by omega, by omega, Lib.hid (by rw [nameFrom_take HB.out, HN.out, Bool.true_and]; exact HS.out), rfl⟩
      have e95 : ((s[i].toNat : Int) == 95) = false := by simp; omega
      by_cases r1 : 65 ≤ s[i].toNat
      · have f65 : decide ((65 : Int) ≤ (s[i].toNat : Int)) = true := decide_eq_true (by omega)
        by_cases r2 : s[i].toNat ≤ 90
        · have f90 : decide ((s[i].toNat : Int) ≤ 90) = true := decide_eq_true (by omega)
          have HS : Hid ((lowCh s[i].toNat || (decide (0 < i) && digCh s[i].toNat)) = true) := Lib.hid (by unfold lowCh digCh; rw [Bool.eq_iff_iff]; simp only [Bool.or_eq_true, Bool.and_eq_true, decide_eq_true_eq, beq_iff_eq, Bool.false_eq_true, iff_true, iff_false, true_iff, false_iff]; omega)
          go_wp2
          go_roundg (gk - 1)
          case measure => omega
          case rel => exact ⟨i + 1, by go_num, by omega, by omega, Lib.hid (by rw [nameFrom_take HB.out, HN.out, Bool.true_and]; exact HS.out), rfl⟩
        have f90 : decide ((s[i].toNat : Int) ≤ 90) = false := decide_eq_false (by omega)
        by_cases r3 : 97 ≤ s[i].toNat
        · have f97 : decide ((97 : Int) ≤ (s[i].toNat : Int)) = true := decide_eq_true (by omega)
          by_cases r4 : s[i].toNat ≤ 122
          · have f122 : decide ((s[i].toNat : Int) ≤ 122) = true := decide_eq_true (by omega)
            have HS : Hid ((lowCh s[i].toNat || (decide (0 < i) && digCh s[i].toNat)) = true) := Lib.hid (by unfold lowCh digCh; rw [Bool.eq_iff_iff]; simp only [Bool.or_eq_true, Bool.and_eq_true, decide_eq_true_eq, beq_iff_eq, Bool.false_eq_true, iff_true, iff_false, true_iff, false_iff]; omega)
            go_wp2
            go_roundg (gk - 1)
            case measure => omega
            case rel => exact ⟨i + 1, by go_num, by omega, by omega, Lib.hid (by rw [nameFrom_take HB.out, HN.out, Bool.true_and]; exact HS.out), rfl⟩
          have f122 : decide ((s[i].toNat : Int) ≤ 122) = false := decide_eq_false (by omega)
          have g48 : decide ((48 : Int) ≤ (s[i].toNat : Int)) = true := decide_eq_true (by omega)
          have l57 : decide ((s[i].toNat : Int) ≤ 57) = false := decide_eq_false (by omega)
          by_cases i0 : i = 0
          · have ei : decide ((0 : Int) < (i : Int)) = false ∧ decide (0 < i) = false := ⟨decide_eq_false (by omega), decide_eq_false (by omega)⟩
            have HS : Hid ((lowCh s[i].toNat || (decide (0 < i) && digCh s[i].toNat)) = false) := Lib.hid (by unfold lowCh digCh; rw [Bool.eq_iff_iff]; simp only [Bool.or_eq_true, Bool.and_eq_true, decide_eq_true_eq, beq_iff_eq, Bool.false_eq_true, iff_true, iff_false, true_iff, false_iff]; omega)
            clear i0
            obtain ⟨ei1, ei2⟩ := ei
            go_wp2
            go_ret
            exact ⟨congrArg (fun b => Ending.returned (.bool b)) (hbad HS.out).symm, Below.refl _ _⟩
          · have ei : decide ((0 : Int) < (i : Int)) = true ∧ decide (0 < i) = true := ⟨decide_eq_true (by omega), decide_eq_true (by omega)⟩
            have HS : Hid ((lowCh s[i].toNat || (decide (0 < i) && digCh s[i].toNat)) = false) := Lib.hid (by unfold lowCh digCh; rw [Bool.eq_iff_iff]; simp only [Bool.or_eq_true, Bool.and_eq_true, decide_eq_true_eq, beq_iff_eq, Bool.false_eq_true, iff_true, iff_false, true_iff, false_iff]; omega)
            clear i0
            obtain ⟨ei1, ei2⟩ := ei
            go_wp2
            go_ret
            exact ⟨congrArg (fun b => Ending.returned (.bool b)) (hbad HS.out).symm, Below.refl _ _⟩
        have f97 : decide ((97 : Int) ≤ (s[i].toNat : Int)) = false := decide_eq_false (by omega)
        have g48 : decide ((48 : Int) ≤ (s[i].toNat : Int)) = true := decide_eq_true (by omega)
        have l57 : decide ((s[i].toNat : Int) ≤ 57) = false := decide_eq_false (by omega)
        by_cases i0 : i = 0
        · have ei : decide ((0 : Int) < (i : Int)) = false ∧ decide (0 < i) = false := ⟨decide_eq_false (by omega), decide_eq_false (by omega)⟩
          have HS : Hid ((lowCh s[i].toNat || (decide (0 < i) && digCh s[i].toNat)) = false) := Lib.hid (by unfold lowCh digCh; rw [Bool.eq_iff_iff]; simp only [Bool.or_eq_true, Bool.and_eq_true, decide_eq_true_eq, beq_iff_eq, Bool.false_eq_true, iff_true, iff_false, true_iff, false_iff]; omega)
          clear i0
          obtain ⟨ei1, ei2⟩ := ei
          go_wp2
          go_ret
          exact ⟨congrArg (fun b => Ending.returned (.bool b)) (hbad HS.out).symm, Below.refl _ _⟩
        · have ei : decide ((0 : Int) < (i : Int)) = true ∧ decide (0 < i) = true := ⟨decide_eq_true (by omega), decide_eq_true (by omega)⟩
          have HS : Hid ((lowCh s[i].toNat || (decide (0 < i) && digCh s[i].toNat)) = false) := Lib.hid (by unfold lowCh digCh; rw [Bool.eq_iff_iff]; simp only [Bool.or_eq_true, Bool.and_eq_true, decide_eq_true_eq, beq_iff_eq, Bool.false_eq_true, iff_true, iff_false, true_iff, false_iff]; omega)
          clear i0
          obtain ⟨ei1, ei2⟩ := ei
          go_wp2
          go_ret
          exact ⟨congrArg (fun b => Ending.returned (.bool b)) (hbad HS.out).symm, Below.refl _ _⟩
      have f65 : decide ((65 : Int) ≤ (s[i].toNat : Int)) = false := decide_eq_false (by omega)
      have f97 : decide ((97 : Int) ≤ (s[i].toNat : Int)) = false := decide_eq_false (by omega)
      by_cases r5 : 48 ≤ s[i].toNat
      · have g48 : decide ((48 : Int) ≤ (s[i].toNat : Int)) = true := decide_eq_true (by omega)
        by_cases r6 : s[i].toNat ≤ 57
        · have l57 : decide ((s[i].toNat : Int) ≤ 57) = true := decide_eq_true (by omega)
          by_cases i0 : i = 0
          · have ei : decide ((0 : Int) < (i : Int)) = false ∧ decide (0 < i) = false := ⟨decide_eq_false (by omega), decide_eq_false (by omega)⟩
            have HS : Hid ((lowCh s[i].toNat || (decide (0 < i) && digCh s[i].toNat)) = false) := Lib.hid (by unfold lowCh digCh; rw [Bool.eq_iff_iff]; simp only [Bool.or_eq_true, Bool.and_eq_true, decide_eq_true_eq, beq_iff_eq, Bool.false_eq_true, iff_true, iff_false, true_iff, false_iff]; omega)
            clear i0
            obtain ⟨ei1, ei2⟩ := ei
            go_wp2
            go_ret
            exact ⟨congrArg (fun b => Ending.returned (.bool b)) (hbad HS.out).symm, Below.refl _ _⟩
          · have ei : decide ((0 : Int) < (i : Int)) = true ∧ decide (0 < i) = true := ⟨decide_eq_true (by omega), decide_eq_true (by omega)⟩
            have HS : Hid ((lowCh s[i].toNat || (decide (0 < i) && digCh s[i].toNat)) = true) := Lib.hid (by unfold lowCh digCh; rw [Bool.eq_iff_iff]; simp only [Bool.or_eq_true, Bool.and_eq_true, decide_eq_true_eq, beq_iff_eq, Bool.false_eq_true, iff_true, iff_false, true_iff, false_iff]; omega)
            clear i0
            obtain ⟨ei1, ei2⟩ := ei
            go_wp2
            go_roundg (gk - 1)
            case measure => omega
            case rel => exact ⟨i + 1, by go_num, by omega, by omega, Lib.hid (by rw [nameFrom_take HB.out, HN.out, Bool.true_and]; exact HS.out), rfl⟩
        have l57 : decide ((s[i].toNat : Int) ≤ 57) = false := decide_eq_false (by omega)
        by_cases i0 : i = 0
        · have ei : decide ((0 : Int) < (i : Int)) = false ∧ decide (0 < i) = false := ⟨decide_eq_false (by omega), decide_eq_false (by omega)⟩
          have HS : Hid ((lowCh s[i].toNat || (decide (0 < i) && digCh s[i].toNat)) = false) := Lib.hid (by unfold lowCh digCh; rw [Bool.eq_iff_iff]; simp only [Bool.or_eq_true, Bool.and_eq_true, decide_eq_true_eq, beq_iff_eq, Bool.false_eq_true, iff_true, iff_false, true_iff, false_iff]; omega)
          clear i0
          obtain ⟨ei1, ei2⟩ := ei
          go_wp2
          go_ret
          exact ⟨congrArg (fun b => Ending.returned (.bool b)) (hbad HS.out).symm, Below.refl _ _⟩
        · have ei : decide ((0 : Int) < (i : Int)) = true ∧ decide (0 < i) = true := ⟨decide_eq_true (by omega), decide_eq_true (by omega)⟩
          have HS : Hid ((lowCh s[i].toNat || (decide (0 < i) && digCh s[i].toNat)) = false) := Lib.hid (by unfold lowCh digCh; rw [Bool.eq_iff_iff]; simp only [Bool.or_eq_true, Bool.and_eq_true, decide_eq_true_eq, beq_iff_eq, Bool.false_eq_true, iff_true, iff_false, true_iff, false_iff]; omega)
          clear i0
          obtain ⟨ei1, ei2⟩ := ei
          go_wp2
          go_ret
          exact ⟨congrArg (fun b => Ending.returned (.bool b)) (hbad HS.out).symm, Below.refl _ _⟩
      have g48 : decide ((48 : Int) ≤ (s[i].toNat : Int)) = false := decide_eq_false (by omega)
      by_cases i0 : i = 0
      · have ei : decide ((0 : Int) < (i : Int)) = false ∧ decide (0 < i) = false := ⟨decide_eq_false (by omega), decide_eq_false (by omega)⟩
        have HS : Hid ((lowCh s[i].toNat || (decide (0 < i) && digCh s[i].toNat)) = false) := Lib.hid (by unfold lowCh digCh; rw [Bool.eq_iff_iff]; simp only [Bool.or_eq_true, Bool.and_eq_true, decide_eq_true_eq, beq_iff_eq, Bool.false_eq_true, iff_true, iff_false, true_iff, false_iff]; omega)
        clear i0
        obtain ⟨ei1, ei2⟩ := ei
        go_wp2
        go_ret
        exact ⟨congrArg (fun b => Ending.returned (.bool b)) (hbad HS.out).symm, Below.refl _ _⟩
      · have ei : decide ((0 : Int) < (i : Int)) = true ∧ decide (0 < i) = true := ⟨decide_eq_true (by omega), decide_eq_true (by omega)⟩
        have HS : Hid ((lowCh s[i].toNat || (decide (0 < i) && digCh s[i].toNat)) = false) := Lib.hid (by unfold lowCh digCh; rw [Bool.eq_iff_iff]; simp only [Bool.or_eq_true, Bool.and_eq_true, decide_eq_true_eq, beq_iff_eq, Bool.false_eq_true, iff_true, iff_false, true_iff, false_iff]; omega)
        clear i0
        obtain ⟨ei1, ei2⟩ := ei
        go_wp2
        go_ret
        exact ⟨congrArg (fun b => Ending.returned (.bool b)) (hbad HS.out).symm, Below.refl _ _⟩
    · have hc1 : decide (i < s.size) = false := decide_eq_false hi
      obtain rfl : i = s.size := by omega
      have hall : nameFrom 0 (bys s) = true := by have := HN.out; rwa [List.take_of_length_le (by rw [bys_len]; exact Nat.le_refl _)] at this
      go_wp2
      go_ret
      exact ⟨congrArg (fun b => Ending.returned (.bool b)) hall.symm, Below.refl _ _⟩
end Go.Proofs.YtmlmnckhiianhaaDoor
