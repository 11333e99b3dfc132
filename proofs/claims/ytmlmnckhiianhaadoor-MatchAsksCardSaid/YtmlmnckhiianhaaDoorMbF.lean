/- MatchAsks, walked. -/
import Derived.Test.YtmlmnckhiianhaaDoorMaN
import Derived.Test.YtmlmnckhiianhaaDoorMaH
import Derived.Test.YtmlmnckhiianhaaDoorRfN
import Derived.Test.YtmlmnckhiianhaaDoorMaJ
import Derived.Test.YtmlmnckhiianhaaDoorMaR
import Derived.Test.YtmlmnckhiianhaaDoorMaM
import Derived.Test.YtmlmnckhiianhaaDoorMaT
import Derived.Test.YtmlmnckhiianhaaDoorMaW
import Derived.Deep.RegionHeld3
namespace Go.Proofs.YtmlmnckhiianhaaDoor
set_option linter.unusedVariables false
set_option linter.unusedSimpArgs false

theorem uq_back : ∀ (v r : List Nat), uq (esc v ++ r) = some (v, r)
  | [], r => uq_quote r
  | c :: v, r => by
    have ih := uq_back v r
    by_cases h10 : c = 10
    · subst h10
      show uq (92 :: 110 :: (esc v ++ r)) = _
      rw [uq_n, ih]; rfl
    · by_cases h2 : c = 34 ∨ c = 92
      · rw [esc_two h10 h2]
        show uq (92 :: c :: (esc v ++ r)) = _
        rw [uq_esc h2, ih]; rfl
      · rw [esc_one h10 h2]
        show uq (c :: (esc v ++ r)) = _
        rw [uq_plain (by omega) h10 (by omega), ih]; rfl
theorem nk_cut {c : Nat} (hc : nk c = false) (t : List Nat) : ∀ n : List Nat, (∀ b, b ∈ n → nk b = true) → (n ++ c :: t).takeWhile nk = n ∧ (n ++ c :: t).dropWhile nk = c :: t
  | [], _ => by simp [List.takeWhile_cons, List.dropWhile_cons, hc]
  | a :: n, h => by
    have ih := nk_cut hc t n (fun b hb => h b (by simp [hb]))
    have ha := h a (by simp)
    simp only [List.cons_append, List.takeWhile_cons, List.dropWhile_cons, ha, if_true]
    exact ⟨by rw [ih.1], ih.2⟩
theorem nameFrom_nk : ∀ (i : Nat) (u : List Nat), nameFrom i u = true → ∀ c, c ∈ u → nk c = true
  | _, [], _, c, hc => by simp at hc
  | i, a :: u, h, c, hc => by
    simp only [nameFrom, Bool.and_eq_true] at h
    simp only [List.mem_cons] at hc
    rcases hc with rfl | hc
    · have := h.1
      unfold nk
      simp [lowCh, digCh] at this ⊢
      omega
    · exact nameFrom_nk (i + 1) u h.2 c hc
theorem name_nk {u : List Nat} (h : nameOK u = true) : ∀ c, c ∈ u → nk c = true := by
  unfold nameOK at h
  simp only [Bool.and_eq_true] at h
  exact nameFrom_nk 0 u h.2
theorem opAt_0 (t : List Nat) : opAt (61 :: 34 :: t) 4 = 0 := by simp [opAt, pb, pre, List.isPrefixOf]
theorem opAt_1 (t : List Nat) : opAt (33 :: 61 :: 34 :: t) 4 = 1 := by simp [opAt, pb, pre, List.isPrefixOf]
theorem opAt_2 (t : List Nat) : opAt (61 :: 126 :: 34 :: t) 4 = 2 := by simp [opAt, pb, pre, List.isPrefixOf]
theorem opAt_3 (t : List Nat) : opAt (33 :: 126 :: 34 :: t) 4 = 3 := by simp [opAt, pb, pre, List.isPrefixOf]
theorem oneP_print (m : Mat) (r : List Nat) (hn : ∀ c, c ∈ m.name → nk c = true) (ho : 0 ≤ m.op ∧ m.op < 4) : oneP (printM m ++ r) = some (m, r) := by
  obtain ⟨nm, op, va⟩ := m
  simp only at hn ho
  have hop : op = 0 ∨ op = 1 ∨ op = 2 ∨ op = 3 := by omega
  have hu : ∀ q, unquote (34 :: q) = uq q := fun q => by simp [unquote]
  rcases hop with rfl | rfl | rfl | rfl
  · have e : printM ⟨nm, 0, va⟩ ++ r = nm ++ 61 :: (34 :: (esc va ++ r)) := by simp [printM, pre]
    obtain ⟨h1, h2⟩ := nk_cut (c := 61) rfl (34 :: (esc va ++ r)) nm hn
    unfold oneP
    rw [e, h1, h2, opAt_0]
    simp [pre, hu, uq_back]
  · have e : printM ⟨nm, 1, va⟩ ++ r = nm ++ 33 :: (61 :: 34 :: (esc va ++ r)) := by simp [printM, pre]
    obtain ⟨h1, h2⟩ := nk_cut (c := 33) rfl (61 :: 34 :: (esc va ++ r)) nm hn
    unfold oneP
    rw [e, h1, h2, opAt_1]
    simp [pre, hu, uq_back]
  · have e : printM ⟨nm, 2, va⟩ ++ r = nm ++ 61 :: (126 :: 34 :: (esc va ++ r)) := by simp [printM, pre]
    obtain ⟨h1, h2⟩ := nk_cut (c := 61) rfl (126 :: 34 :: (esc va ++ r)) nm hn
    unfold oneP
    rw [e, h1, h2, opAt_2]
    simp [pre, hu, uq_back]
  · have e : printM ⟨nm, 3, va⟩ ++ r = nm ++ 33 :: (126 :: 34 :: (esc va ++ r)) := by simp [printM, pre]
    obtain ⟨h1, h2⟩ := nk_cut (c := 33) rfl (126 :: 34 :: (esc va ++ r)) nm hn
    unfold oneP
    rw [e, h1, h2, opAt_3]
    simp [pre, hu, uq_back]
theorem pre_len (k : Nat) : 1 ≤ (pre k).length := by
  unfold pre
  split <;> simp
theorem printM_len (m : Mat) : 2 ≤ (printM m).length := by
  unfold printM
  have := pre_len m.op.toNat
  simp only [List.length_append, List.length_cons]
  omega
theorem printJ_len (b : Bool) (l : List Mat) : 1 ≤ (printJ b l).length := by
  cases l with
  | nil => cases b <;> simp [printJ]
  | cons m l => have := printM_len m; cases b <;> simp [printJ] <;> omega
theorem parseL_print : ∀ (n : Nat) (acc l : List Mat), (printJ acc.isEmpty l).length < n + 1 → (∀ m, m ∈ l → (∀ c, c ∈ m.name → nk c = true) ∧ 0 ≤ m.op ∧ m.op < 4) → parseL n acc (printJ acc.isEmpty l) = some (acc ++ l)
  | 0, acc, l, h, _ => by have := printJ_len acc.isEmpty l; omega
  | n + 1, acc, [], h, _ => by
    unfold parseL
    have e : printJ acc.isEmpty [] = [125] := by cases acc.isEmpty <;> rfl
    rw [if_pos e]; simp
  | n + 1, acc, m :: l, h, ho => by
    have hm := ho m (by simp)
    have hl : ∀ y, y ∈ l → (∀ c, c ∈ y.name → nk c = true) ∧ 0 ≤ y.op ∧ y.op < 4 := fun y hy => ho y (List.mem_cons_of_mem _ hy)
    have hne : ∀ y : Mat, (acc ++ [y]).isEmpty = false := fun y => by cases acc <;> rfl
    have h2 := printM_len m
    have h3 := printJ_len false l
    unfold parseL
    cases ha : acc.isEmpty with
    | true =>
      rw [ha] at h
      have e : printJ true (m :: l) = printM m ++ printJ false l := rfl
      rw [e, List.length_append] at h
      rw [e]
      rw [if_neg (fun hh => by have := congrArg List.length hh; rw [List.length_append] at this; simp at this; omega), if_pos rfl, oneP_print m _ hm.1 hm.2]
      have ih := parseL_print n (acc ++ [m]) l (by rw [hne]; omega) hl
      rw [hne] at ih
      simp only [ih, List.append_assoc, List.singleton_append]
    | false =>
      rw [ha] at h
      have e : printJ false (m :: l) = 44 :: (printM m ++ printJ false l) := rfl
      rw [e, List.length_cons, List.length_append] at h
      rw [e]
      rw [if_neg (fun hh => by injection hh with h0 _; omega), if_neg (by simp)]
      simp only [oneP_print m _ hm.1 hm.2]
      have ih := parseL_print n (acc ++ [m]) l (by rw [hne]; omega) hl
      rw [hne] at ih
      rw [ih]; simp
theorem matErr_parts {m : Mat} (h : matErr m = 0) : (∀ c, c ∈ m.name → nk c = true) ∧ 0 ≤ m.op ∧ m.op < 4 := by
  unfold matErr at h
  by_cases ho : m.op < 0 ∨ 3 < m.op
  · rw [if_pos ho] at h; cases h
  · rw [if_neg ho] at h
    by_cases hn : nameOK m.name = false ∨ 64 < m.value.length
    · rw [if_pos hn] at h; cases h
    · exact ⟨name_nk (by cases e : nameOK m.name with | true => rfl | false => exact absurd (Or.inl e) hn), by omega, by omega⟩
/-- What is printed of matchers that may be is read as they were. -/
theorem parse_print {L : List Mat} (h : checkErr L = 0) : parseM (printAll L) = some L := by
  unfold parseM printAll
  have := parseL_print ((printJ true L).length + 1) [] L (by simp only [List.isEmpty_nil]; exact Nat.lt_succ_of_lt (Nat.lt_succ_self _)) (fun m hm => matErr_parts ((checkErr_ok.1 h).2 m hm))
  simpa using this
end Go.Proofs.YtmlmnckhiianhaaDoor

namespace Go.Proofs.YtmlmnckhiianhaaDoor
open Go.RowKit
set_option linter.unusedVariables false
set_option linter.unusedSimpArgs false

theorem mat_ops {m : SM} (h : matErr (toMat m) = 0) : 0 ≤ m.op ∧ m.op < 4 := by
  unfold matErr at h
  by_cases ho : (toMat m).op < 0 ∨ 3 < (toMat m).op
  · rw [if_pos ho] at h; cases h
  · have : (toMat m).op = m.op := rfl
    omega
theorem getB_drop {x : List (ByteArray × ByteArray)} {i : Nat} {y : ByteArray × ByteArray} {s : ByteArray} (h : x[i]? = some y) : getB (x.drop i) s = if y.1 = s then y.2 else getB (x.drop (i + 1)) s := by
  have hi := (List.getElem?_eq_some_iff.1 h).1
  have e : x.drop i = y :: x.drop (i + 1) := by
    rw [List.drop_eq_getElem_cons hi]; congr 1
    rw [List.getElem?_eq_getElem hi] at h; injection h
  rw [e]; rfl

set_option maxRecDepth 100000 in
set_option maxHeartbeats 2000000 in
theorem rmatch12_calls (v u : Value) (l : List SM) (x : List (ByteArray × ByteArray)) (w : World) (hl : MS w v l) (hx : LS w u x) (hm0 : ∀ (i : Nat) (y : SM), l[i]? = some y → matErr (toMat y) = 0) (hpo : ∀ (i : Nat) (y : SM), l[i]? = some y → 2 ≤ y.op → ∃ r, Rx.parse (bys y.value) = .ok r) (hx64 : ∀ y, y ∈ x → y.2.size ≤ 64) :
    Calls Tryd.prog 17 #[v, u] w fun e w' => e = .returned (.bool (holdsAll (l.map toMat) (x.map toLbl))) ∧ Below w.heap.size w w' := by
  obtain ⟨A, c, rfl, hn2, hm⟩ := hl
  obtain ⟨lA, lc, rfl, hn3, hl2⟩ := hx
  have HM := Lib.hid hm
  have HX := Lib.hid hl2
  clear hm hl2
  obtain ⟨R, hR⟩ : ∃ R, holdsAll (l.map toMat) (x.map toLbl) = R := ⟨_, rfl⟩
  rw [hR]
  have HR := Lib.hid hR
  clear hR
  go_enter Tryd.func17, Tryd.ntmps17
  go_wp2
  go_loopg [5, 6, 7, 8, 9, 10] (l.length + 1) (fun k u5 u6 u7 u8 u9 u10 wr => ∃ (i : Nat), u5 = .int .i64 (i : Int) ∧ i + k = l.length + 1 ∧ i ≤ l.length ∧ Hid (holdsAll ((l.drop i).map toMat) (x.map toLbl) = R) ∧ Hid (Below w.heap.size w wr))
  case atStart => exact ⟨0, rfl, by omega, by omega, HR, Lib.hid (Below.refl _ _)⟩
  case round =>
    obtain ⟨i, rfl, hik, hil, HRR, hbel⟩ := hrel
    obtain ⟨wo, rfl⟩ : ∃ m : World, m = wr := ⟨_, rfl⟩
    obtain ⟨G, rfl⟩ : ∃ m : Nat, m = gk := ⟨_, rfl⟩
    by_cases hi : i < l.length
    · have hc1 : decide (i < l.length) = true := decide_eq_true hi
      have hc2 : (i : Int) < (l.length : Int) := by omega
      have hc3 : (0 : Int) ≤ (i : Int) := by omega
      obtain ⟨m, hxl⟩ : ∃ m, l[i]? = some m := ⟨_, List.getElem?_eq_getElem hi⟩
      obtain ⟨g, o, rfl, hrg⟩ := HM.out i m hxl
      have HRG := Lib.hid hrg
      have HST := HRR.out
      rw [holdsAll_step hxl] at HST
      have HST2 := Lib.hid HST
      have HM0 := Lib.hid (hm0 i m hxl)
      have HPO := Lib.hid (hpo i m hxl)
      clear hrg hxl HST HRR HR
      go_wp2
      go_loopg [6, 7] (x.length + 1) (fun k u6 u7 wr => ∃ (j : Nat) (z : Int), u6 = .string (getB (x.drop j) m.name) ∧ u7 = .int .i64 z ∧ z = (j : Int) - 1 ∧ j + 1 = k ∧ j ≤ x.length ∧ Hid (Below w.heap.size w wr))
      case atStart => exact ⟨x.length, _, by rw [List.drop_eq_nil_of_le (Nat.le_refl _)]; rfl, rfl, rfl, rfl, by omega, hbel⟩
      case round =>
        obtain ⟨j, z, rfl, rfl, hz, hjk, hjl, hbel2⟩ := hrel
        obtain ⟨wi, rfl⟩ : ∃ m : World, m = wr := ⟨_, rfl⟩
        obtain ⟨x0, x1, x2⟩ := range3 (rangeAt_below HRG.out hbel2.out)
        by_cases hj : 0 < j
        · obtain ⟨n, rfl⟩ : ∃ n, j = n + 1 := ⟨j - 1, by omega⟩
          obtain rfl : z = (n : Int) := by omega
          obtain ⟨y, hyl⟩ : ∃ y, x[n]? = some y := ⟨_, List.getElem?_eq_getElem (by omega)⟩
          obtain ⟨g2, o2, rfl, hrg2⟩ := HX.out n y hyl
          have hrg3 := rangeAt_below hrg2 hbel2.out
          have y0 : wi.cell? ⟨g2, o2 + n * 2, none⟩ = some (.string y.1) := hrg3 0 _ rfl
          have y1 : wi.cell? ⟨g2, o2 + n * 2 + 1, none⟩ = some (.string y.2) := hrg3 1 _ rfl
          have d1 : (0 : Int) ≤ (n : Int) := by omega
          have d2 : (n : Int) < (x.length : Int) := by omega
          have d3 : decide ((0 : Int) ≤ (n : Int)) = true := decide_eq_true d1
          have hw : IntKind.i64.wrap ((n : Int) - 1) = (n : Int) - 1 := IntWalk.i64_in _ (by omega)
          have HGB := Lib.hid (getB_drop (s := m.name) hyl)
          have hse := str_eq y.1 m.name
          clear hyl hrg2 hrg3 hz
          by_cases hne : y.1 = m.name
          · rw [decide_eq_true hne] at hse
            have hse2 := hse.symm
            have HG2 := Lib.hid (show getB (x.drop n) m.name = y.2 by rw [HGB.out, if_pos hne])
            clear hse hne
            go_wp2
            go_quiet (fail)
            go_wp2
            go_roundg (gk - 1)
            case measure => omega
            case rel => exact ⟨n, _, by rw [HG2.out], rfl, rfl, by omega, by omega, Lib.hid (hbel2.out.trans ⟨rfl, rfl, rfl, Nat.le_refl _, fun _ _ => rfl⟩)⟩
          · rw [decide_eq_false hne] at hse
            have hse2 := hse.symm
            have HG2 := Lib.hid (show getB (x.drop n) m.name = getB (x.drop (n + 1)) m.name by rw [HGB.out, if_neg hne])
            clear hse hne
            go_wp2
            go_quiet (fail)
            go_wp2
            go_roundg (gk - 1)
            case measure => omega
            case rel => exact ⟨n, _, by rw [HG2.out], rfl, rfl, by omega, by omega, Lib.hid (hbel2.out.trans ⟨rfl, rfl, rfl, Nat.le_refl _, fun _ _ => rfl⟩)⟩
        · obtain rfl : j = 0 := by omega
          obtain rfl : z = -1 := by omega
          obtain ⟨nm, op, va⟩ := m
          have HVO := HST2.out
          rw [valOf_getB] at HVO
          rw [List.drop_zero]
          have HV64 := Lib.hid (getB_64 hx64 nm)
          obtain ⟨V, hV⟩ : ∃ V, getB x nm = V := ⟨_, rfl⟩
          rw [show (SM.mk nm op va).name = nm from rfl] at *
          rw [hV] at HVO HV64 ⊢
          have hse := str_eq V va
          have hme := HM0.out
          clear hV HST2 HM0 HM hz hj hjl hjk
          simp only at x0 x1 x2
          have hop : op = 0 ∨ op = 1 ∨ op = 2 ∨ op = 3 := by
            have := mat_ops hme
            simp only at this; omega
          rcases hop with rfl | rfl | rfl | rfl
          · have hve : holdsV (toMat ⟨nm, 0, va⟩) (bys V) = ((V.toList == va.toList)) := by
              rw [← hse]; unfold holdsV toMat; rw [if_pos rfl]; exact decide_eq_decide.2 bys_inj
            rw [hve] at HVO
            clear hve hse hme
            cases hb : (V.toList == va.toList) with
            | true =>
              rw [hb] at HVO
              have HVO2 : Hid (holdsAll ((l.drop (i + 1)).map toMat) (x.map toLbl) = R) := Lib.hid (by rw [← HVO]; rfl)
              clear HVO
              go_wp2
              go_roundg (G - 1)
              case measure => omega
              case rel => exact ⟨i + 1, by go_num, by omega, by omega, HVO2, Lib.hid (hbel2.out)⟩
            | false =>
              rw [hb] at HVO
              obtain rfl : R = false := by rw [← HVO]; rfl
              clear HVO
              go_wp2
              go_ret
              exact ⟨rfl, hbel2.out⟩
          · have hve : holdsV (toMat ⟨nm, 1, va⟩) (bys V) = (!(V.toList == va.toList)) := by
              rw [← hse]; unfold holdsV toMat; simp only [show ¬ ((1 : Int) = 0) from by decide, if_false, if_true]; congr 1; exact decide_eq_decide.2 bys_inj
            rw [hve] at HVO
            clear hve hse hme
            cases hb : (V.toList == va.toList) with
            | true =>
              rw [hb] at HVO
              obtain rfl : R = false := by rw [← HVO]; rfl
              clear HVO
              go_wp2
              go_ret
              exact ⟨rfl, hbel2.out⟩
            | false =>
              rw [hb] at HVO
              have HVO2 : Hid (holdsAll ((l.drop (i + 1)).map toMat) (x.map toLbl) = R) := Lib.hid (by rw [← HVO]; rfl)
              clear HVO
              go_wp2
              go_roundg (G - 1)
              case measure => omega
              case rel => exact ⟨i + 1, by go_num, by omega, by omega, HVO2, Lib.hid (hbel2.out)⟩
          · obtain ⟨pr, hpr⟩ : ∃ pr, Rx.parse (bys va) = .ok pr := HPO.out (by simp)
            obtain ⟨b, hb⟩ : ∃ b, mt pr (bys V) = b := ⟨_, rfl⟩
            have hve : holdsV (toMat ⟨nm, 2, va⟩) (bys V) = (b) := by
              unfold holdsV asks toMat; simp only [hpr, hb]; rfl
            rw [hve] at HVO
            have HPR := Lib.hid hpr
            have HBB := Lib.hid hb
            have hsz := Lib.hid (show Rx.sz pr ≤ 100000 by have := Rx.parse_sz hpr; omega)
            clear hve hse hme hpr hb
            cases b with
            | true =>
              have HVO2 : Hid (holdsAll ((l.drop (i + 1)).map toMat) (x.map toLbl) = R) := Lib.hid (by rw [← HVO]; rfl)
              clear HVO
              go_wp2_with (first | (go_at_call 21; (fail_if_success (have := hbP)); ((refine (RParse_ok va pr HPR.out _).mono ?_); rintro e w5 ⟨hbP, K, A1, m1, c1, A2, m2, c2, rfl, hnv⟩; have HNV := Lib.hid hnv; clear hnv)) | (go_at_call 29; (fail_if_success (have := hbQ)); ((refine (RMatch_calls V HV64.out pr hsz.out K A1 A2 m1 c1 m2 c2 _ (HNV.out.frame (fun k hk _ => ⟨Below.heap_alloc _ _ k hk, trivial⟩))).mono ?_); rintro e w6 ⟨rfl, hbQ⟩; rw [HBB.out]; have HW6 := Lib.hid (below_thn (below_thn hbP ((Below.refl _ _).alloc (Nat.le_refl _) _)) hbQ); have x1b := (HW6.out.cell (block_lt_of_cell x1)).trans x1)))
              go_roundg (G - 1)
              case measure => omega
              case rel => exact ⟨i + 1, by go_num, by omega, by omega, HVO2, Lib.hid (below_thn hbel2.out HW6.out)⟩
            | false =>
              obtain rfl : R = false := by rw [← HVO]; rfl
              clear HVO
              go_wp2_with (first | (go_at_call 21; (fail_if_success (have := hbP)); ((refine (RParse_ok va pr HPR.out _).mono ?_); rintro e w5 ⟨hbP, K, A1, m1, c1, A2, m2, c2, rfl, hnv⟩; have HNV := Lib.hid hnv; clear hnv)) | (go_at_call 29; (fail_if_success (have := hbQ)); ((refine (RMatch_calls V HV64.out pr hsz.out K A1 A2 m1 c1 m2 c2 _ (HNV.out.frame (fun k hk _ => ⟨Below.heap_alloc _ _ k hk, trivial⟩))).mono ?_); rintro e w6 ⟨rfl, hbQ⟩; rw [HBB.out]; have HW6 := Lib.hid (below_thn (below_thn hbP ((Below.refl _ _).alloc (Nat.le_refl _) _)) hbQ); have x1b := (HW6.out.cell (block_lt_of_cell x1)).trans x1)))
              go_ret
              exact ⟨rfl, below_thn hbel2.out HW6.out⟩
          · obtain ⟨pr, hpr⟩ : ∃ pr, Rx.parse (bys va) = .ok pr := HPO.out (by simp)
            obtain ⟨b, hb⟩ : ∃ b, mt pr (bys V) = b := ⟨_, rfl⟩
            have hve : holdsV (toMat ⟨nm, 3, va⟩) (bys V) = (!b) := by
              unfold holdsV asks toMat; simp only [hpr, hb]; rfl
            rw [hve] at HVO
            have HPR := Lib.hid hpr
            have HBB := Lib.hid hb
            have hsz := Lib.hid (show Rx.sz pr ≤ 100000 by have := Rx.parse_sz hpr; omega)
            clear hve hse hme hpr hb
            cases b with
            | true =>
              obtain rfl : R = false := by rw [← HVO]; rfl
              clear HVO
              go_wp2_with (first | (go_at_call 21; (fail_if_success (have := hbP)); ((refine (RParse_ok va pr HPR.out _).mono ?_); rintro e w5 ⟨hbP, K, A1, m1, c1, A2, m2, c2, rfl, hnv⟩; have HNV := Lib.hid hnv; clear hnv)) | (go_at_call 29; (fail_if_success (have := hbQ)); ((refine (RMatch_calls V HV64.out pr hsz.out K A1 A2 m1 c1 m2 c2 _ (HNV.out.frame (fun k hk _ => ⟨Below.heap_alloc _ _ k hk, trivial⟩))).mono ?_); rintro e w6 ⟨rfl, hbQ⟩; rw [HBB.out]; have HW6 := Lib.hid (below_thn (below_thn hbP ((Below.refl _ _).alloc (Nat.le_refl _) _)) hbQ); have x1b := (HW6.out.cell (block_lt_of_cell x1)).trans x1)))
              go_ret
              exact ⟨rfl, below_thn hbel2.out HW6.out⟩
            | false =>
              have HVO2 : Hid (holdsAll ((l.drop (i + 1)).map toMat) (x.map toLbl) = R) := Lib.hid (by rw [← HVO]; rfl)
              clear HVO
              go_wp2_with (first | (go_at_call 21; (fail_if_success (have := hbP)); ((refine (RParse_ok va pr HPR.out _).mono ?_); rintro e w5 ⟨hbP, K, A1, m1, c1, A2, m2, c2, rfl, hnv⟩; have HNV := Lib.hid hnv; clear hnv)) | (go_at_call 29; (fail_if_success (have := hbQ)); ((refine (RMatch_calls V HV64.out pr hsz.out K A1 A2 m1 c1 m2 c2 _ (HNV.out.frame (fun k hk _ => ⟨Below.heap_alloc _ _ k hk, trivial⟩))).mono ?_); rintro e w6 ⟨rfl, hbQ⟩; rw [HBB.out]; have HW6 := Lib.hid (below_thn (below_thn hbP ((Below.refl _ _).alloc (Nat.le_refl _) _)) hbQ); have x1b := (HW6.out.cell (block_lt_of_cell x1)).trans x1)))
              go_roundg (G - 1)
              case measure => omega
              case rel => exact ⟨i + 1, by go_num, by omega, by omega, HVO2, Lib.hid (below_thn hbel2.out HW6.out)⟩
    · have hc1 : decide (i < l.length) = false := decide_eq_false hi
      obtain rfl : i = l.length := by omega
      have hRR := HRR.out
      rw [List.drop_eq_nil_of_le (Nat.le_refl _)] at hRR
      obtain rfl : R = true := hRR.symm
      clear hRR HRR
      go_wp2
      go_ret
      exact ⟨rfl, hbel.out⟩
end Go.Proofs.YtmlmnckhiianhaaDoor

namespace Go.Proofs.YtmlmnckhiianhaaDoor
open Go.RowKit Go.Shelf
set_option linter.unusedVariables false
set_option linter.unusedSimpArgs false

def bld_ren : Go.Shelf.Ren := ⟨fun | 167 => 46 | n => shelf156_ren.f n, shelf156_ren.t, shelf156_ren.g⟩
theorem bld_lays : Lays.n167 Tryd.prog bld_ren := {
  mixed := shelf156.mixed
  f167 := Tryd.func46.trans (congrArg some (by kernel_rfl))
  f240 := shelf156.f240.trans (congrArg some (by kernel_rfl))
  f276 := shelf156.f276.trans (congrArg some (by kernel_rfl))
  t0 := shelf156.t0
  a0 := shelf156.a0
  z0 := shelf156.z0
  v0 := shelf156.v0
  t4 := shelf156.t4
  a4 := shelf156.a4
  z4 := shelf156.z4
  v4 := shelf156.v4
  t5 := Builder_Extra_156.t5
  a5 := Builder_Extra_156.a5
  z5 := Builder_Extra_156.z5
  v5 := Builder_Extra_156.v5
  t9 := shelf156.t9
  a9 := shelf156.a9
  z9 := shelf156.z9
  v9 := shelf156.v9
  t20 := shelf156.t20
  a20 := shelf156.a20
  z20 := shelf156.z20
  v20 := shelf156.v20
  t37 := shelf156.t37
  a37 := shelf156.a37
  z37 := shelf156.z37
  v37 := shelf156.v37
  t70 := shelf156.t70
  a70 := shelf156.a70
  z70 := shelf156.z70
  v70 := shelf156.v70
  t72 := shelf156.t72
  a72 := shelf156.a72
  z72 := shelf156.z72
  v72 := shelf156.v72
  t75 := shelf156.t75
  a75 := shelf156.a75
  z75 := shelf156.z75
  v75 := shelf156.v75
  t164 := shelf156.t164
  a164 := shelf156.a164
  z164 := shelf156.z164
  v164 := shelf156.v164 }
theorem bld_extra : Builder.Extra Tryd.prog bld_ren := {
  sizeBuilder := Builder_Extra_156.sizeBuilder
  liesBuilder := by kernel_rfl
  t5 := Builder_Extra_156.t5
  a5 := Builder_Extra_156.a5
  z5 := Builder_Extra_156.z5
  v5 := Builder_Extra_156.v5
  infoByte := Builder_Extra_156.infoByte
  cellsByte := Builder_Extra_156.cellsByte
  sizeByte := Builder_Extra_156.sizeByte
  neB5 := Builder_Extra_156.neB5 }
theorem wbyte_calls (B b : Nat) (bs : List Value) (c : Int) (w : World) (h : Lib.IsBuilder 99 5 B b bs w) (hlen : bs.length + 1 ≤ 140737488355328) (hBw : B ≤ w.heap.size) :
    Calls Tryd.prog 46 #[.pointer (some ⟨b, 0, none⟩), .int .u8 c] w fun e w' => e = .returned .nilIface ∧ (Lib.BuilderAt 99 5 B b (.pointer (some ⟨b, 0, none⟩)) (bs ++ [.int .u8 c]) w' ∧ Below B w w') :=
  Any.Builder_WriteByte bld_lays bld_extra B b bs c w h hlen hBw
theorem wstr_calls (B b : Nat) (bs : List Value) (s : ByteArray) (w : World) (h : Lib.IsBuilder 99 5 B b bs w) (hlen : bs.length + s.size ≤ 140737488355328) (hBw : B ≤ w.heap.size) :
    Calls Tryd.prog 47 #[.pointer (some ⟨b, 0, none⟩), .string s] w fun e w' => e = .returned (.tuple #[.int .i64 s.size, .nilIface]) ∧ (Lib.BuilderAt 99 5 B b (.pointer (some ⟨b, 0, none⟩)) (bs ++ Lib.strCells s) w' ∧ Below B w w') :=
  Any.Builder_WriteString { shelf156 with } Builder_Extra_156 B b bs s w h hlen hBw
theorem bstr_calls (B b : Nat) (l : List UInt8) (w : World) (h : Lib.IsBuilder 99 5 B b (Lib.byteCells l) w) (hBw : B ≤ w.heap.size) :
    Calls Tryd.prog 48 #[.pointer (some ⟨b, 0, none⟩)] w fun e w' => e = .returned (.string ⟨l.toArray⟩) ∧ Below B w w' :=
  Any.Builder_String_any { shelf156 with } Builder_Extra_156 B b l w h hBw

set_option maxRecDepth 100000 in
set_option maxHeartbeats 1000000 in
theorem lquote_calls (s : ByteArray) (hT : (esc (bys s)).length ≤ 140737488350000) (w : World) : Calls Tryd.prog 30 #[.string s] w fun e w' => ∃ q : ByteArray, e = .returned (.string q) ∧ bys q = 34 :: esc (bys s) ∧ Below w.heap.size w w' := by
  have hss : s.size < 4611686018427387904 := by have := esc_len (bys s); rw [bys_len] at this; omega
  have HT := Lib.hid hT
  clear hT
  have HF := Lib.hid (Lib.fresh_isBuilder 99 5 w)
  go_enter Tryd.func30, Tryd.ntmps30
  go_wp2_with (go_at_call 46; (fail_if_success (have := HB1)); ((refine (wbyte_calls w.heap.size w.heap.size [] 34 _ HF.out (by simp) (by simp)).mono ?_); rintro e w3 ⟨rfl, hb1, hbW⟩; have HB1 := Lib.hid hb1; have HW1 := Lib.hid (((Below.refl w.heap.size w).alloc (Nat.le_refl _) _).trans hbW); clear hb1 hbW))
  go_loopg [9] (s.size + 1) (fun k u9 wr => ∃ (i : Nat) (lb : List UInt8), u9 = .int .i64 (i : Int) ∧ i + k = s.size + 1 ∧ i ≤ s.size ∧ Hid (Lib.BuilderAt 99 5 w.heap.size w.heap.size (.pointer (some ⟨w.heap.size, 0, none⟩)) (Lib.byteCells lb) wr) ∧ Hid (lb.map UInt8.toNat ++ esc ((bys s).drop i) = 34 :: esc (bys s)) ∧ Hid (Below w.heap.size w wr))
  case atStart => exact ⟨0, [34], rfl, by omega, by omega, HB1, Lib.hid rfl, HW1⟩
  case round =>
    obtain ⟨i, lb, rfl, hik, hil, HB, HQ, hbel⟩ := hrel
    obtain ⟨wo, rfl⟩ : ∃ m : World, m = wr := ⟨_, rfl⟩
    have hql : lb.length + (esc ((bys s).drop i)).length = (esc (bys s)).length + 1 := by
      have := congrArg List.length HQ.out
      rw [List.length_append, List.length_map] at this
      simpa using this
    by_cases hi : i < s.size
    · have hc1 : decide (i < s.size) = true := decide_eq_true hi
      have hc2 : (i : Int) < (s.size : Int) := by omega
      have hc3 : (0 : Int) ≤ (i : Int) := by omega
      have HD := Lib.hid (drop_get (bys_get s i hi))
      rw [HD.out] at hql
      have hw1 : IntKind.i64.wrap ((i : Int) + 1) = (i : Int) + 1 := IntWalk.i64_in _ (by omega)
      have hq9 : Hid (lb.length + 4 ≤ 140737488355328) := Lib.hid (by have := HT.out; have := esc_len ((bys s).drop (i + 1)); simp only [esc, List.length_append] at hql; (repeat' split at hql) <;> (simp at hql; omega))
      have hbl : (Lib.byteCells lb).length = lb.length := by simp [Lib.byteCells]
      have HBL := Lib.hid hbl
      have HSZ := Lib.hid hbel.out.size
      clear hql hbl
      by_cases r10 : s[i].toNat = 10
      · have e10 : ((s[i].toNat : Int) == 10) = true := by rw [r10]; rfl
        have HI := Lib.hid (show (lb ++ [92, 110]).map UInt8.toNat ++ esc ((bys s).drop (i + 1)) = 34 :: esc (bys s) by rw [← HQ.out, HD.out, r10]; simp [esc])
        clear r10
        go_wp2_with (go_at_call 47; (fail_if_success (have := HB2)); ((refine (wstr_calls w.heap.size w.heap.size _ ⟨#[92, 110]⟩ _ (.inr HB.out) (by have h1 := hq9.out; have h2 := HBL.out; have h3 : (⟨#[92, 110]⟩ : ByteArray).size = 2 := rfl; omega) HSZ.out).mono ?_); rintro e w3 ⟨rfl, hb2, hbW⟩; have HB2 := Lib.hid hb2; have HW2 := Lib.hid (hbel.out.trans hbW); clear hb2 hbW))
        go_roundg (gk - 1)
        case measure => omega
        case rel => exact ⟨i + 1, lb ++ [92, 110], by go_num, by omega, by omega, Lib.hid (by have h := HB2.out; rw [show Lib.byteCells (lb ++ [92, 110]) = Lib.byteCells lb ++ Lib.strCells ⟨#[92, 110]⟩ by simp [Lib.byteCells, Lib.strCells]]; exact h), HI, HW2⟩
      · have e10 : ((s[i].toNat : Int) == 10) = false := by simp; omega
        by_cases re : s[i].toNat = 34 ∨ s[i].toNat = 92
        · have HI := Lib.hid (show (lb ++ [92] ++ [s[i]]).map UInt8.toNat ++ esc ((bys s).drop (i + 1)) = 34 :: esc (bys s) by rw [← HQ.out, HD.out, esc_two r10 re]; simp)
          have hor : ((s[i].toNat : Int) == 34 || (s[i].toNat : Int) == 92) = true := by rcases re with h | h <;> rw [h] <;> rfl
          have e34 : ((s[i].toNat : Int) == 34) = true ∨ (((s[i].toNat : Int) == 34) = false ∧ ((s[i].toNat : Int) == 92) = true) := by
            rcases re with h | h
            · exact .inl (by rw [h]; rfl)
            · exact .inr ⟨by rw [h]; rfl, by rw [h]; rfl⟩
          clear r10 re
          rcases e34 with e34 | ⟨e34, e92⟩
          all_goals go_wp2_with (first | (go_at_call_of 46 (Value.int IntKind.u8 92); (refine (wbyte_calls w.heap.size w.heap.size _ 92 _ (.inr HB.out) (by have h1 := hq9.out; have h2 := HBL.out; omega) HSZ.out).mono ?_); rintro e w3 ⟨rfl, hb2, hbW⟩; have HB2 := Lib.hid hb2; have HW2 := Lib.hid (hbel.out.trans hbW); clear hb2 hbW) | (go_at_call 46; (fail_if_success (have := HB3)); (refine (wbyte_calls w.heap.size w.heap.size _ _ _ (.inr HB2.out) (by have h1 := hq9.out; have h2 := HBL.out; rw [List.length_append]; simp; omega) (HW2.out.size)).mono ?_); rintro e w4 ⟨rfl, hb3, hbW⟩; have HB3 := Lib.hid hb3; have HW3 := Lib.hid (HW2.out.trans hbW); clear hb3 hbW))
          all_goals go_roundg (gk - 1)
          all_goals first | omega | exact ⟨i + 1, lb ++ [92] ++ [s[i]], by go_num, by omega, by omega, Lib.hid (by have h := HB3.out; rw [cells_snoc, cells_snoc]; exact h), HI, HW3⟩
        · have HI := Lib.hid (show (lb ++ [s[i]]).map UInt8.toNat ++ esc ((bys s).drop (i + 1)) = 34 :: esc (bys s) by rw [← HQ.out, HD.out, esc_one r10 re]; simp)
          have e34 : ((s[i].toNat : Int) == 34) = false := by simp; omega
          have e92 : ((s[i].toNat : Int) == 92) = false := by simp; omega
          clear r10 re
          go_wp2_with (go_at_call 46; (fail_if_success (have := HB2)); ((refine (wbyte_calls w.heap.size w.heap.size _ _ _ (.inr HB.out) (by have h1 := hq9.out; have h2 := HBL.out; omega) HSZ.out).mono ?_); rintro e w3 ⟨rfl, hb2, hbW⟩; have HB2 := Lib.hid hb2; have HW2 := Lib.hid (hbel.out.trans hbW); clear hb2 hbW))
          go_roundg (gk - 1)
          case measure => omega
          case rel => exact ⟨i + 1, lb ++ [s[i]], by go_num, by omega, by omega, Lib.hid (by have h := HB2.out; rw [cells_snoc]; exact h), HI, HW2⟩
    · have hc1 : decide (i < s.size) = false := decide_eq_false hi
      obtain rfl : i = s.size := by omega
      have HI := Lib.hid (show (lb ++ [34]).map UInt8.toNat = 34 :: esc (bys s) by
        rw [← HQ.out, List.drop_eq_nil_of_le (by rw [bys_len]; exact Nat.le_refl _)]; simp [esc])
      have hq9 : Hid (lb.length + 1 ≤ 140737488355328) := Lib.hid (by have := HT.out; omega)
      have HBL := Lib.hid (show (Lib.byteCells lb).length = lb.length by simp [Lib.byteCells])
      have HSZ := Lib.hid hbel.out.size
      clear hql
      go_wp2_with (first | (go_at_call 46; (fail_if_success (have := HB2)); ((refine (wbyte_calls w.heap.size w.heap.size _ 34 _ (.inr HB.out) (by have h1 := hq9.out; have h2 := HBL.out; omega) HSZ.out).mono ?_); rintro e w3 ⟨rfl, hb2, hbW⟩; have HB2 := Lib.hid hb2; have HW2 := Lib.hid (hbel.out.trans hbW); clear hb2 hbW)) | (go_at_call 48; (fail_if_success (have := hbS)); ((refine (bstr_calls w.heap.size w.heap.size (lb ++ [34]) _ (.inr (by have h := HB2.out; rw [cells_snoc]; exact h)) HW2.out.size).mono ?_); rintro e w4 ⟨rfl, hbS⟩)))
      go_ret
      exact ⟨_, rfl, by rw [bys_mk]; exact HI.out, HW2.out.trans hbS⟩
end Go.Proofs.YtmlmnckhiianhaaDoor

namespace Go.Proofs.YtmlmnckhiianhaaDoor
open Go.RowKit Go.Sort
set_option linter.unusedVariables false
set_option linter.unusedSimpArgs false

theorem joinTail_print : ∀ (xs : List ByteArray) (L : List Mat), xs.map bys = L.map printM → (Lib.joinTail [44] (xs.map (·.data.toList))).map UInt8.toNat ++ [125] = printJ false L
  | [], [], _ => rfl
  | [], m :: L, h => by simp at h
  | x :: xs, [], h => by simp at h
  | x :: xs, m :: L, h => by
    simp only [List.map_cons, List.cons.injEq] at h
    have ih := joinTail_print xs L h.2
    have e : (x.data.toList).map UInt8.toNat = printM m := h.1
    simp only [List.map_cons, Lib.joinTail, List.flatten_cons, List.map_append, printJ, List.append_assoc] at ih ⊢
    rw [e]
    simp only [List.map_nil, List.singleton_append]
    rw [← ih]
    rfl
theorem join_print (xs : List ByteArray) (L : List Mat) (h : xs.map bys = L.map printM) : (Lib.join (xs.map (·.data.toList)) [44]).map UInt8.toNat ++ [125] = printJ true L := by
  match xs, L, h with
  | [], [], _ => rfl
  | [], m :: L, h => simp at h
  | x :: xs, [], h => simp at h
  | x :: xs, m :: L, h =>
    simp only [List.map_cons, List.cons.injEq] at h
    have ih := joinTail_print xs L h.2
    have e : (x.data.toList).map UInt8.toNat = printM m := h.1
    rw [List.map_cons, Lib.join_cons, List.map_append, e, List.append_assoc, ih]
    rfl
theorem printM_within {m : Mat} : ∀ {L : List Mat} (b : Bool), m ∈ L → (printM m).length ≤ (printJ b L).length
  | [], _, h => by simp at h
  | a :: L, b, h => by
    simp only [List.mem_cons] at h
    rcases h with rfl | h
    · cases b <;> simp [printJ] <;> omega
    · have ih := printM_within (L := L) false h
      cases b <;> simp only [printJ, List.length_append, List.length_cons] <;> omega
theorem opS_bys (j : Nat) (h : j < 4) : bys (opS j) = pre j := by
  match j, h with
  | 0, _ => rfl
  | 1, _ => rfl
  | 2, _ => rfl
  | 3, _ => rfl
/-- What the loads of one matcher read. -/
def SeeK (wo : World) (x : SM) (u : World) : Prop := u.heap[wo.heap.size]? = some (.cells #[.string x.name, .int .i64 x.op, .string x.value] 36 (0, 0)) ∧ Ops u
theorem SeeK.cells {wo u : World} {x : SM} (hx : x.op.toNat < 4) (h : SeeK wo x u) : (u.cell? ⟨wo.heap.size, 0, none⟩ = some (.string x.name) ∧ u.cell? ⟨wo.heap.size, 1, none⟩ = some (.int .i64 x.op) ∧ u.cell? ⟨wo.heap.size, 2, none⟩ = some (.string x.value) ∧ u.cell? ⟨0, x.op.toNat, none⟩ = some (.string (opS x.op.toNat))) ∧ Hid (SeeK wo x u) :=
  ⟨⟨(blk_cell h.1).trans rfl, (blk_cell h.1).trans rfl, (blk_cell h.1).trans rfl, h.2 _ hx⟩, Lib.hid h⟩
theorem SeeK.below {wo u u' : World} {x : SM} (h : SeeK wo x u) (hb : Below u.heap.size u u') : SeeK wo x u' := ⟨blk_below hb h.1, h.2.below hb⟩
theorem SeeK.alloc {wo u : World} {x : SM} (h : SeeK wo x u) (o : Obj) : SeeK wo x (u.alloc o) := h.below ((Below.refl _ _).alloc (Nat.le_refl _) _)
theorem SeeK.drew {wo u : World} {x : SM} (h : SeeK wo x u) : SeeK wo x u.drew := h.below ⟨rfl, rfl, rfl, Nat.le_refl _, fun _ _ => rfl⟩
theorem SeeK.grown {wo u u' : World} {x : SM} {r : Option Nat} (h : SeeK wo x u) (hg : u.grownBy u' r) (h1 : some wo.heap.size ≠ r) (h2 : some 0 ≠ r) : SeeK wo x u' :=
  ⟨blk_grown h.1 hg h1, fun j hj => (hg.cell_far ⟨0, j, none⟩ h.2.lt h2).trans (h.2 j hj)⟩

theorem Tryd.infoStr : (Tryd.prog.info? 9).map (fun i => (i.zero, i.size, i.bytes)) = some (some (.string ⟨#[]⟩), 1, 16) := by kernel_rfl
set_option maxRecDepth 100000 in
set_option maxHeartbeats 2000000 in
theorem sprint_calls (g : Nat) (l : List SM) (w : World) (hs : Sel w g l) (hn : l.length ≤ 1000000) (ho : Ops w) (hop : ∀ m, m ∈ l → 0 ≤ m.op ∧ m.op < 4) (hT : (printAll (l.map toMat)).length ≤ 140737488350000) :
    Calls Tryd.prog 18 #[.pointer (some ⟨g, 0, none⟩)] w fun e w' => ∃ q : ByteArray, e = .returned (.string q) ∧ bys q = printAll (l.map toMat) ∧ Below w.heap.size w w' := by
  obtain ⟨i0, hinf, hz0, hz1, hz2⟩ := info_parts Tryd.infoStr
  have HT := Lib.hid hT
  have HS := Lib.hid hs
  clear hT
  go_enter Tryd.func18, Tryd.ntmps18
  go_wp2_with (go_at_call 15; (fail_if_success (have := hbM)); ((refine (matchers_calls g l _ HS.out (by omega)).mono ?_); rintro e w4 ⟨v, rfl, hv, hbM⟩; obtain ⟨A, c, rfl, hn2, hm⟩ := hv; have HM := Lib.hid hm; clear hm))
  go_loopg [3, 9] (l.length + 1) (fun k u3 u9 wr => ∃ (i : Nat) (ws : List ByteArray), u9 = .int .i64 (i : Int) ∧ i + k = l.length + 1 ∧ i ≤ l.length ∧ Hid (wr.ownsRow w4.heap.size 9 1 u3 i (ws.map Value.string)) ∧ Hid (ws.map bys = ((l.take i).map toMat).map printM) ∧ Hid (Below w4.heap.size w4 wr))
  case atStart => exact ⟨0, [], rfl, by omega, by omega, Lib.hid ⟨rfl, .inl ⟨rfl, rfl⟩⟩, Lib.hid rfl, Lib.hid (Below.refl _ _)⟩
  case round =>
    obtain ⟨i, ws, rfl, hik, hil, HO, HWS, hbel⟩ := hrel
    obtain ⟨wo, rfl⟩ : ∃ m : World, m = wr := ⟨_, rfl⟩
    by_cases hi : i < l.length
    · have hc1 : decide (i < l.length) = true := decide_eq_true hi
      have hc2 : (i : Int) < (l.length : Int) := by omega
      have hc3 : (0 : Int) ≤ (i : Int) := by omega
      obtain ⟨x, hxl⟩ : ∃ x, l[i]? = some x := ⟨_, List.getElem?_eq_getElem hi⟩
      obtain ⟨g1, o, rfl, hrg⟩ := HM.out i x hxl
      have HRG := Lib.hid (rangeAt_below hrg hbel.out)
      obtain ⟨ho0, ho4⟩ := hop x (List.mem_of_getElem? hxl)
      have hx4 : x.op.toNat < 4 := by omega
      have hpm := printM_within (m := toMat x) true (List.mem_map.2 ⟨x, List.mem_of_getElem? hxl, rfl⟩)
      have HTK := Lib.hid (show ((l.take (i + 1)).map toMat).map printM = ((l.take i).map toMat).map printM ++ [printM (toMat x)] by rw [List.take_add_one, hxl]; simp)
      have hlen : Hid (x.name.size + (opS x.op.toNat).size + ((esc (bys x.value)).length + 1) ≤ 140737488350000) := Lib.hid (by
        have h2 := HT.out
        have h3 := opS_len x.op.toNat
        unfold printAll at h2
        rw [List.length_cons] at h2
        unfold printM at hpm
        simp only [List.length_append, List.length_cons, bys_len, toMat] at hpm h2
        omega)
      have hes : Hid ((esc (bys x.value)).length ≤ 140737488350000) := Lib.hid (by have := hlen.out; omega)
      have hq1 : ¬ (9223372036854775807 < x.name.size + (opS x.op.toNat).size) := by have := hlen.out; omega
      have HK := Lib.hid (show SeeK wo x (wo.alloc (.cells #[.string x.name, .int .i64 x.op, .string x.value] 36)) from ⟨blk_new _ _, ((ho.below hbM).below hbel.out).below ((Below.refl _ _).alloc (Nat.le_refl _) _)⟩)
      have HZ := Lib.hid hbel.out.size
      have HLT := Lib.hid (show ∀ k, u3.ownBlock = some k → w4.heap.size ≤ k ∧ k < wo.heap.size from fun k hk => HO.out.lt k hk)
      have HN1 : Hid (some wo.heap.size ≠ u3.ownBlock) := Lib.hid (fun e => by have := (HLT.out _ e.symm).2; omega)
      have HN2 : Hid (some 0 ≠ u3.ownBlock) := Lib.hid (fun e => by have := (HLT.out _ e.symm).1; have := (ho.below hbM).lt; omega)
      clear hrg hxl hpm
      unfold smCells at HRG
      go_wp2_with (refine wpList_load_mid rfl _ (.tmp 11) rfl g1 (o + i * 3) rfl _ _ HRG.out Tryd.underlying36 rfl (by kernel_rfl) ?_)
      go_region_held3 (fun u => (u.cell? ⟨wo.heap.size, 0, none⟩ = some (.string x.name) ∧ u.cell? ⟨wo.heap.size, 1, none⟩ = some (.int .i64 x.op) ∧ u.cell? ⟨wo.heap.size, 2, none⟩ = some (.string x.value) ∧ u.cell? ⟨0, x.op.toNat, none⟩ = some (.string (opS x.op.toNat))) ∧ Hid (SeeK wo x u)) (first | exact SeeK.cells hx4 HK.out.drew | exact SeeK.cells hx4 HK2.out | exact SeeK.cells hx4 HK3.out | exact SeeK.cells hx4 HK4.out) (first
        | (go_at_call 30; (refine (lquote_calls x.value hes.out _).mono ?_); rintro e w5 ⟨qq, rfl, hqq, hbq⟩; have HQQ := Lib.hid hqq; have HK2 : Hid (SeeK wo x w5) := Lib.hid (HK.out.drew.below hbq); have HO5 : Hid ((w5.alloc (.cells #[.string (x.name ++ opS x.op.toNat ++ qq)] 9)).ownsRow w4.heap.size 9 1 u3 i (ws.map Value.string)) := Lib.hid ((ownsRow_of HO.out (fun k hk => (hbq.block k (by have := (HLT.out k hk).2; simp; omega)).trans (Below.heap_alloc _ _ k (HLT.out k hk).2))).alloc _); have HZ5 : Hid (w4.heap.size ≤ (w5.alloc (.cells #[.string (x.name ++ opS x.op.toNat ++ qq)] 9)).heap.size) := Lib.hid (by have h1 := HZ.out; have h2 := hbq.size; simp at h2 ⊢; omega); have HK3 : Hid (SeeK wo x (w5.alloc (.cells #[.string (x.name ++ opS x.op.toNat ++ qq)] 9))) := Lib.hid (HK2.out.alloc _); have hq3 : ¬ (9223372036854775807 < (x.name ++ opS x.op.toNat).size + qq.size) := (by have h1 := hlen.out; have h2 := congrArg List.length HQQ.out; simp only [List.length_cons, bys_len] at h2; rw [ByteArray.size_append]; omega); have hq3b : ¬ (9223372036854775807 < x.name.size + (opS x.op.toNat).size + qq.size) := (by have h1 := hlen.out; have h2 := congrArg List.length HQQ.out; simp only [List.length_cons, bys_len] at h2; omega))
        | (refine step_append_lies _ rfl (.tmp 13) (.tmp 25) 68 rfl w4.heap.size 9 i0 (.string ⟨#[]⟩) 1 16 Tryd.underlying68 hinf hz0 hz1 hz2 rfl (by decide) u3 i (ws.map Value.string) rfl (by exact HO5.out) ⟨_, 0, none⟩ 1 1 [.string (x.name ++ opS x.op.toNat ++ qq)] rfl rfl (by exact World.news_of_block (blk_new _ _)) (fun u hu => by simp at hu; subst hu; rfl) (by decide) (by unfold maxLen; omega) (by omega) (by exact HZ5.out) _ rfl ?_; intro g2 cap w6 hown6 hgr6 hor6 hlt6; have HK4 : Hid (SeeK wo x w6) := Lib.hid (HK3.out.grown hgr6 HN1.out HN2.out)))
      go_wp2
      go_roundg (gk - 1)
      case measure => omega
      case rel => exact ⟨i + 1, ws ++ [x.name ++ opS x.op.toNat ++ qq], by go_num, by omega, by omega, Lib.hid (by rw [List.map_append]; exact hown6), Lib.hid (by rw [HTK.out, List.map_append, HWS.out]; congr 1; simp only [List.map_cons, List.map_nil]; rw [bys_app, bys_app, HQQ.out]; unfold printM toMat; rw [opS_bys _ hx4, List.append_assoc]), Lib.hid (((Chg.of_below (M := fun k => w4.heap.size ≤ k) ((((hbel.out.alloc hbel.out.size _).drew).trans (hbq.mono (by have := HZ.out; simp; omega))).alloc (by have h1 := HZ.out; have h2 := hbq.size; simp at h2; omega) _)).grown hgr6 (fun k hk => .inr (HLT.out k hk).1)).below (fun k hk h => by omega))⟩
    · have hc1 : decide (i < l.length) = false := decide_eq_false hi
      obtain rfl : i = l.length := by omega
      have HWS2 : Hid (ws.map bys = (l.map toMat).map printM) := Lib.hid (by have := HWS.out; rw [List.take_of_length_le (Nat.le_refl _)] at this; exact this)
      have hwl : ws.length = l.length := by have := congrArg List.length HWS2.out; simpa using this
      have HJP := Lib.hid (join_print ws (l.map toMat) HWS2.out)
      obtain ⟨J, hJ⟩ : ∃ J : List UInt8, Lib.join (ws.map (·.data.toList)) [44] = J := ⟨_, rfl⟩
      rw [hJ] at HJP
      have HJL := Lib.hid (show J.length + 2 ≤ 140737488350000 by have h1 := congrArg List.length HJP.out; have h2 := HT.out; unfold printAll at h2; rw [List.length_cons, ← h1] at h2; simp at h2; omega)
      obtain ⟨uA, uc, rfl, HJO⟩ : ∃ uA uc, u3 = .slice uA l.length uc ∧ Hid (∀ W, Below wo.heap.size wo W → Calls Tryd.prog 31 #[.slice uA l.length uc, .string ⟨#[44]⟩] W fun e w' => e = .returned (.string ⟨J.toArray⟩) ∧ Below W.heap.size W w') := by
        rcases HO.out.2 with ⟨h1, h2⟩ | ⟨bk, cap, cur, h1, hB, hg, g1, g2, g3, g4⟩
        · refine ⟨none, 0, by rw [h1, h2], Lib.hid fun W hW => ?_⟩
          have hw0 : ws = [] := List.length_eq_zero_iff.1 (by omega)
          rw [h2]
          refine (strings_Join_none none 0 ⟨#[44]⟩ W).mono ?_
          rintro e w' ⟨rfl, rfl⟩
          rw [hw0] at hJ
          exact ⟨by rw [← hJ]; rfl, Below.refl _ _⟩
        · refine ⟨some ⟨bk, 0, none⟩, cap, h1, Lib.hid fun W hW => ?_⟩
          have hbk := block_lt hg
          rw [← hwl, ← hJ]
          refine strings_Join bk 0 cap ws ⟨#[44]⟩ W (fun j x hx => ?_) (Nat.lt_of_lt_of_le hbk hW.size) (by omega) (by omega) (by rw [show (⟨#[44]⟩ : ByteArray).data.toList = [44] from rfl, hJ]; have := HJL.out; omega)
          have hjl := (List.getElem?_eq_some_iff.1 hx).1
          rw [hW.cell hbk, Nat.zero_add, blk_cell hg]
          have e : (ws.map Value.string)[j]? = some (.string x) := by rw [List.getElem?_map, hx]; rfl
          rw [← g4, List.getElem?_take_of_lt (by omega)] at e
          simpa using e
      have HB4 := Lib.hid (below_thn hbM hbel.out)
      have hj1 : ¬ (9223372036854775807 < 1 + J.length) := by have := HJL.out; omega
      have hj2 : ¬ (9223372036854775807 < 1 + J.length + 1) := by have := HJL.out; omega
      clear hJ
      go_wp2_with (go_at_call 31; (fail_if_success (have := hbJ)); ((refine (HJO.out _ (by first | exact Below.refl _ _ | exact ⟨rfl, rfl, rfl, Nat.le_refl _, fun _ _ => rfl⟩)).mono ?_); rintro e w9 ⟨rfl, hbJ⟩))
      go_ret
      exact ⟨_, rfl, by rw [bys_app, bys_app, bys_mk]; unfold printAll; rw [← HJP.out]; rfl, below_thn HB4.out hbJ⟩
end Go.Proofs.YtmlmnckhiianhaaDoor

namespace Go.Proofs.YtmlmnckhiianhaaDoor
open Go.RowKit Go.Sort
set_option linter.unusedVariables false
set_option linter.unusedSimpArgs false

set_option maxRecDepth 100000 in
set_option maxHeartbeats 4000000 in
theorem to_big (v : Value) (l : List SM) (w : World) (hl : MS w v l) (h40 : l.length * 40 ≤ 140737488355328) : Calls Tryd.prog 12 #[v] w fun e w' => ∃ v', e = .returned v' ∧ MS w' v' l ∧ Below w.heap.size w w' := by
  obtain ⟨i0, hinf, hz0, hz1, hz2⟩ := info_parts Tryd.infoMat
  obtain ⟨A, c, rfl, hn2, hm⟩ := hl
  have HM := Lib.hid hm
  clear hm
  go_enter Tryd.func12, Tryd.ntmps12
  go_wp2
  go_loopg [3, 8] (l.length + 1) (fun k u3 u8 wr => ∃ (i : Nat), u8 = .int .i64 (i : Int) ∧ i + k = l.length + 1 ∧ i ≤ l.length ∧ Hid (wr.ownsRow w.heap.size 36 3 u3 i (flatM (l.take i))) ∧ Below w.heap.size w wr)
  case atStart => exact ⟨0, rfl, by omega, by omega, Lib.hid ⟨rfl, .inl ⟨rfl, rfl⟩⟩, Below.refl _ _⟩
  case round =>
    obtain ⟨i, rfl, hik, hil, HO, hbel⟩ := hrel
    obtain ⟨wo, rfl⟩ : ∃ m : World, m = wr := ⟨_, rfl⟩
    by_cases hi : i < l.length
    · have hc1 : decide (i < l.length) = true := decide_eq_true hi
      have hc2 : (i : Int) < (l.length : Int) := by omega
      have hc3 : (0 : Int) ≤ (i : Int) := by omega
      obtain ⟨x, hxl⟩ : ∃ x, l[i]? = some x := ⟨_, List.getElem?_eq_getElem hi⟩
      obtain ⟨g, o, rfl, hrg⟩ := HM.out i x hxl
      have HRG := Lib.hid (rangeAt_below hrg hbel)
      have HTK := Lib.hid (show flatM (l.take (i + 1)) = flatM (l.take i) ++ [.string x.name, .int .i64 x.op, .string x.value] by rw [List.take_add_one, hxl]; exact flatM_snoc _ _)
      clear hrg hxl
      unfold smCells at HRG
      go_wp2_with (first | (refine wpList_load_mid rfl _ (.tmp 10) rfl g (o + i * 3) rfl _ _ HRG.out Tryd.underlying28 rfl (by kernel_rfl) ?_) | (at_builtin; go_loud (refine wpList_append_lies _ rfl (.tmp 12) (.tmp 14) 33 rfl w.heap.size 36 i0 (.agg #[.string ⟨#[]⟩, .int .i64 0, .string ⟨#[]⟩]) 3 40 Tryd.underlying33 hinf hz0 hz1 hz2 rfl (by decide) u3 i (flatM (l.take i)) rfl (by exact (HO.out.alloc _).alloc _) ⟨_, 0, none⟩ 1 1 [.string x.name, .int .i64 x.op, .string x.value] rfl rfl (World.news_of_block (blk_new' _ _ _ (by simp))) (fun u hu => by simp at hu; rcases hu with rfl | rfl | rfl <;> rfl) (by decide) (by unfold maxLen; omega) (by omega) (by have := hbel.size; simp; omega) _ rfl (fun g1 cap w3 hown3 hgr3 hor3 hlt3 => ?_))))
      go_roundg (gk - 1)
      case measure => omega
      case rel => exact ⟨i + 1, by go_num, by omega, by omega, Lib.hid (by rw [HTK.out]; exact hown3), (((Chg.of_below (M := fun k => w.heap.size ≤ k) hbel).alloc _).alloc _ |>.grown hgr3 (fun k hk => .inr (HO.out.lt k hk).1)).below (fun k hk h => by omega)⟩
    · have hc1 : decide (i < l.length) = false := decide_eq_false hi
      obtain rfl : i = l.length := by omega
      go_wp2
      go_ret
      exact ⟨u3, rfl, MS.of_row (by have := HO.out; rw [List.take_of_length_le (Nat.le_refl _)] at this; exact this) hn2, hbel⟩

set_option maxRecDepth 100000 in
set_option maxHeartbeats 1000000 in
theorem match_nil (v : Value) (w : World) : Calls Tryd.prog 13 #[.pointer none, v] w fun e w' => e = .returned (.bool false) ∧ w' = w := by
  go_enter Tryd.func13, Tryd.ntmps13
  go_wp2
  go_ret
  exact ⟨rfl, rfl⟩
set_option maxRecDepth 100000 in
set_option maxHeartbeats 1000000 in
theorem matchers_nil (w : World) : Calls Tryd.prog 15 #[.pointer none] w fun e w' => e = .returned (.slice none 0 0) ∧ w' = w := by
  go_enter Tryd.func15, Tryd.ntmps15
  go_wp2
  go_ret
  exact ⟨rfl, rfl⟩
set_option maxRecDepth 100000 in
set_option maxHeartbeats 1000000 in
theorem sprint_nil (w : World) : Calls Tryd.prog 18 #[.pointer none] w fun e w' => e = .returned (.string ⟨#[123, 125]⟩) ∧ Below w.heap.size w w' := by
  go_enter Tryd.func18, Tryd.ntmps18
  go_wp2_with (go_at_call 15; (fail_if_success (have := HB4)); ((refine (matchers_nil _).mono ?_); rintro e w4 ⟨rfl, hw4⟩; have HB4 := Lib.hid (show Below w.heap.size w w4 from hw4 ▸ Below.refl _ _); clear hw4))
  go_loopg [3, 9] 1 (fun k u3 u9 wr => k = 1 ∧ u3 = .slice none 0 0 ∧ u9 = .int .i64 0 ∧ wr = w4)
  case atStart => exact ⟨rfl, rfl, rfl, rfl⟩
  case round =>
    obtain ⟨rfl, rfl, rfl, rfl⟩ := hrel
    go_wp2_with (go_at_call 31; (fail_if_success (have := hbJ)); ((refine (strings_Join_none none 0 ⟨#[44]⟩ _).mono ?_); rintro e w9 ⟨rfl, hbJ⟩; have HJ := Lib.hid (show Below w.heap.size w w9 from hbJ ▸ HB4.out); clear hbJ))
    go_ret
    exact ⟨rfl, HJ.out⟩
/-- A matcher that may be is short as a text; so are matchers. -/
theorem esc_le : ∀ u : List Nat, (esc u).length ≤ 2 * u.length + 1
  | [] => by simp [esc]
  | c :: r => by
    have ih := esc_le r
    unfold esc
    rw [List.length_append, List.length_cons]
    repeat' split
    all_goals (simp only [List.length_cons, List.length_nil]; omega)
theorem pre_le (k : Nat) : (pre k).length ≤ 2 := by
  unfold pre
  split <;> simp
theorem printM_le {m : Mat} (h : matErr m = 0) : (printM m).length ≤ 200 := by
  unfold matErr at h
  by_cases ho : m.op < 0 ∨ 3 < m.op
  · rw [if_pos ho] at h; cases h
  · rw [if_neg ho] at h
    by_cases hn : nameOK m.name = false ∨ 64 < m.value.length
    · rw [if_pos hn] at h; cases h
    · have hk : nameOK m.name = true := by cases e : nameOK m.name with | true => rfl | false => exact absurd (Or.inl e) hn
      unfold nameOK at hk
      simp only [Bool.and_eq_true, decide_eq_true_eq] at hk
      have := esc_le m.value
      have := pre_le m.op.toNat
      unfold printM
      simp only [List.length_append, List.length_cons]
      omega
theorem printJ_le : ∀ (b : Bool) (L : List Mat), (∀ m, m ∈ L → matErr m = 0) → (printJ b L).length ≤ 201 * L.length + 1
  | b, [], _ => by cases b <;> simp [printJ]
  | b, m :: L, h => by
    have h1 := printM_le (h m (by simp))
    have h2 := printJ_le false L (fun y hy => h y (List.mem_cons_of_mem _ hy))
    cases b <;> simp only [printJ, List.length_append, List.length_cons] <;> omega
theorem printAll_le {L : List Mat} (h : checkErr L = 0) : (printAll L).length ≤ 4000 := by
  have h2 := checkErr_ok.1 h
  have := printJ_le true L h2.2
  have := h2.1
  unfold printAll
  rw [List.length_cons]
  omega
end Go.Proofs.YtmlmnckhiianhaaDoor

namespace Go.Proofs.YtmlmnckhiianhaaDoor
open Go.RowKit Go.Sort
set_option linter.unusedVariables false
set_option linter.unusedSimpArgs false

theorem toMat_inj : ∀ {l m : List SM}, l.map toMat = m.map toMat → l = m
  | [], [], _ => rfl
  | [], b :: m, h => by simp at h
  | a :: l, [], h => by simp at h
  | a :: l, b :: m, h => by
    simp only [List.map_cons, List.cons.injEq] at h
    obtain ⟨h1, h2⟩ := h
    rw [toMat_inj h2]
    congr 1
    obtain ⟨a1, a2, a3⟩ := a
    obtain ⟨b1, b2, b3⟩ := b
    unfold toMat at h1
    simp only [Mat.mk.injEq] at h1
    obtain ⟨e1, e2, e3⟩ := h1
    rw [bys_inj.1 e1, e2, bys_inj.1 e3]
/-- What stands at a world on the way: labels, the ways, selectors, slices of the same matchers. -/
def Al (w0 : World) (u : Value) (l : List SM) (x : List (ByteArray × ByteArray)) (gs : List Nat) (vs : List Value) (w : World) : Prop :=
  LS w u x ∧ Ops w ∧ Below w0.heap.size w0 w ∧ (∀ g, g ∈ gs → Sel w g l) ∧ ∀ b, b ∈ vs → MS w b l
theorem Al.below {w0 w w' : World} {u : Value} {l : List SM} {x : List (ByteArray × ByteArray)} {gs : List Nat} {vs : List Value} (h : Al w0 u l x gs vs w) (hb : Below w.heap.size w w') : Al w0 u l x gs vs w' :=
  ⟨h.1.below hb, h.2.1.below hb, below_thn h.2.2.1 hb, fun g hg => (h.2.2.2.1 g hg).below hb, fun b hv => (h.2.2.2.2 b hv).below hb⟩
theorem Al.sel {w0 w : World} {u : Value} {l : List SM} {x : List (ByteArray × ByteArray)} {gs : List Nat} {vs : List Value} (h : Al w0 u l x gs vs w) {g : Nat} (hg : Sel w g l) : Al w0 u l x (g :: gs) vs w :=
  ⟨h.1, h.2.1, h.2.2.1, fun k hk => by simp only [List.mem_cons] at hk; rcases hk with rfl | hk; exact hg; exact h.2.2.2.1 k hk, h.2.2.2.2⟩
theorem Al.ms {w0 w : World} {u : Value} {l : List SM} {x : List (ByteArray × ByteArray)} {gs : List Nat} {vs : List Value} (h : Al w0 u l x gs vs w) {b : Value} (hb : MS w b l) : Al w0 u l x gs (b :: vs) w :=
  ⟨h.1, h.2.1, h.2.2.1, h.2.2.2.1, fun k hk => by simp only [List.mem_cons] at hk; rcases hk with rfl | hk; exact hb; exact h.2.2.2.2 k hk⟩
theorem sel_parse {w : World} {g : Nat} {l : List SM} (h : Sel w g l) (i : Nat) (y : SM) (hy : l[i]? = some y) (h2 : 2 ≤ y.op) : ∃ r, Rx.parse (bys y.value) = .ok r := by
  obtain ⟨lv, rv, vs, _, _, _, _, hr1, hr2⟩ := h
  have hi := (List.getElem?_eq_some_iff.1 hy).1
  obtain ⟨r, h3, _⟩ := (hr2 i y _ hy (List.getElem?_eq_getElem (by rw [hr1]; exact hi))).2 h2
  exact ⟨r, h3⟩

/-- What is printed of matchers that may be is read as a selector of them. -/
theorem mparse_back (s : ByteArray) (l : List SM) (h0 : checkErr (l.map toMat) = 0) (hs : bys s = printAll (l.map toMat)) (w : World) (ho : Ops w) : Calls Tryd.prog 14 #[.string s] w fun e w' =>
    ∃ g, e = .returned (.tuple #[.pointer (some ⟨g, 0, none⟩), .int .i64 0]) ∧ Sel w' g l ∧ Below w.heap.size w w' :=
  (mparse_calls s (by have := printAll_le h0; rw [← hs, bys_len] at this; omega) w ho).mono fun e w' ⟨h, hb⟩ => by
    unfold MPRes at h
    rw [hs, parse_print h0] at h
    rcases h with ⟨h1, _⟩ | ⟨_, g, m, h2, h3, h4⟩
    · exact absurd h0 h1
    · exact ⟨g, h2, by rw [← toMat_inj h4]; exact h3, hb⟩
set_option maxRecDepth 100000 in
set_option maxHeartbeats 2000000 in
theorem asks12_calls (v u : Value) (l : List SM) (x : List (ByteArray × ByteArray)) (w : World) (hl : MS w v l) (h40 : l.length * 40 ≤ 140737488351232) (hx : LS w u x) (ho : Ops w) :
    Calls Tryd.prog 7 #[v, u] w fun e w' => e = .returned (.bool true) ∧ Below w.heap.size w w' := by
  have HA : Hid (Al w u l x [] [v] w) := Lib.hid ⟨hx, ho, Below.refl _ _, fun g hg => by simp at hg, fun b hb => by simp only [List.mem_singleton] at hb; subst hb; exact hl⟩
  obtain ⟨A, c, rfl, hn, -⟩ := hl
  obtain ⟨lA, lc, rfl, -⟩ := hx
  clear ho
  go_enter Tryd.func7, Tryd.ntmps7
  go_wp2_with (first
    | (go_at_call 8; (fail_if_success (have := hbL)); ((refine (light_calls _ _ l x _ (HA.out.2.2.2.2 _ (by simp)) HA.out.1).mono ?_); rintro e w1 ⟨lb, rfl, hlb, hbL⟩; have HA := Lib.hid (HA.out.below hbL); have HLB := Lib.hid hlb; clear hlb; cases lb))
    | (go_at_call 10; (fail_if_success (have := hbW)); ((refine (awake12_calls _ HA.out.2.1).mono ?_); rintro e w9 ⟨rfl, hbW⟩; have HA := Lib.hid (HA.out.below hbW)))
    | (go_at_call 12; (fail_if_success (have := hbT)); ((refine (to_big _ l _ (HA.out.2.2.2.2 _ (by simp)) (by omega)).mono ?_); rintro e w2 ⟨v2, rfl, hv2, hbT⟩; have HA := Lib.hid ((HA.out.below hbT).ms hv2); clear hv2))
    | (go_at_call 11; (fail_if_success (have := hbN)); ((refine (new_calls _ l _ (HA.out.2.2.2.2 _ (by simp))).mono ?_); rintro e w3 ⟨hbN, ⟨hne, rfl⟩ | ⟨h0, g, rfl, hsel⟩⟩)))
  · go_ret
    exact ⟨rfl, HA.out.2.2.1⟩
  · have HA := Lib.hid (HA.out.below hbN)
    have hk1 : ((checkErr (l.map toMat) : Int) != 0) = true := by simp; exact hne
    have hk2 : ((checkErr (l.map toMat) : Int) == 0) = false := by simp; exact hne
    go_wp2_with (first
      | (go_at_call 9; (fail_if_success (have := hbK)); ((refine (check_calls _ l _ (HA.out.2.2.2.2 _ (by simp))).mono ?_); rintro e w4 ⟨rfl, hbK⟩; have HA := Lib.hid (HA.out.below hbK)))
      | (go_at_call 10; (fail_if_success (have := hbW)); ((refine (awake12_calls _ HA.out.2.1).mono ?_); rintro e w9 ⟨rfl, hbW⟩; have HA := Lib.hid (HA.out.below hbW))))
    go_ret
    exact ⟨rfl, HA.out.2.2.1⟩
  · have HA := Lib.hid ((HA.out.below hbN).sel hsel)
    have HX64 : Hid (∀ y, y ∈ x → y.2.size ≤ 64) := Lib.hid (HLB.out trivial)
    have HM0 : Hid (∀ (i : Nat) (y : SM), l[i]? = some y → matErr (toMat y) = 0) := Lib.hid (check_mats h0)
    have HPO : Hid (∀ (i : Nat) (y : SM), l[i]? = some y → 2 ≤ y.op → ∃ r, Rx.parse (bys y.value) = .ok r) := Lib.hid (sel_parse hsel)
    have HOP : Hid (∀ m, m ∈ l → 0 ≤ m.op ∧ m.op < 4) := Lib.hid (fun m hm => mat_ops ((checkErr_ok.1 h0).2 _ (List.mem_map.2 ⟨m, hm, rfl⟩)))
    have HPL := Lib.hid (printAll_le h0)
    have hl16 : l.length ≤ 16 := by
      have := (checkErr_ok.1 h0).1
      rw [List.length_map] at this; exact this
    have H0 := Lib.hid h0
    obtain ⟨H, hH⟩ : ∃ H, holdsAll (l.map toMat) (x.map toLbl) = H := ⟨_, rfl⟩
    have HH := Lib.hid hH
    clear hsel h0 hH hbN HLB
    go_wp2_with (first
      | (go_at_call 9; (fail_if_success (have := hbK)); ((refine (check_calls _ l _ (HA.out.2.2.2.2 _ (by simp))).mono ?_); rintro e w4 ⟨rfl, hbK⟩; rw [H0.out]; have HA := Lib.hid (HA.out.below hbK)))
      | (go_at_call 13; (fail_if_success (have := hbM1)); ((refine (selMatch_calls g l _ (HA.out.2.2.2.1 g (by simp)) HM0.out _ x HA.out.1 HX64.out).mono ?_); rintro e w5 ⟨rfl, hbM1⟩; rw [HH.out]; have HA := Lib.hid (HA.out.below hbM1)))
      | (go_at_call 17; (fail_if_success (have := hbM2)); ((refine (rmatch12_calls _ _ l x _ (HA.out.2.2.2.2 _ (by simp)) HA.out.1 HM0.out HPO.out HX64.out).mono ?_); rintro e w6 ⟨rfl, hbM2⟩; rw [HH.out]; have HA := Lib.hid (HA.out.below hbM2)))
      | (go_at_call 18; (fail_if_success (have := hbP1)); ((refine (sprint_calls g l _ (HA.out.2.2.2.1 g (by simp)) (by omega) HA.out.2.1 HOP.out (by have := HPL.out; omega)).mono ?_); rintro e w7 ⟨q, rfl, hq, hbP1⟩; have HQ := Lib.hid hq; clear hq; have HA := Lib.hid (HA.out.below hbP1)))
      | (go_at_call 16; (fail_if_success (have := hbP2)); ((refine (print_calls _ l _ (HA.out.2.2.2.2 _ (by simp)) HOP.out (by have := HPL.out; omega)).mono ?_); rintro e w8 ⟨q2, rfl, hq2, hbP2⟩; obtain rfl : q2 = q := bys_inj.1 (hq2.trans HQ.out.symm); clear hq2; have HA := Lib.hid (HA.out.below hbP2)))
      | (go_at_call 18; (fail_if_success (have := hbP3)); ((refine (sprint_calls g l _ (HA.out.2.2.2.1 g (by simp)) (by omega) HA.out.2.1 HOP.out (by have := HPL.out; omega)).mono ?_); rintro e w10 ⟨q3, rfl, hq3, hbP3⟩; have HQ3 := Lib.hid hq3; clear hq3; have HA := Lib.hid (HA.out.below hbP3)))
      | (go_at_call 14; (fail_if_success (have := hbR)); ((refine (mparse_back _ l H0.out HQ3.out _ HA.out.2.1).mono ?_); rintro e w11 ⟨g2, rfl, hsel2, hbR⟩; have HA := Lib.hid ((HA.out.below hbR).sel hsel2); clear hsel2))
      | (go_at_call 13; (fail_if_success (have := hbM3)); ((refine (selMatch_calls g2 l _ (HA.out.2.2.2.1 g2 (by simp)) HM0.out _ x HA.out.1 HX64.out).mono ?_); rintro e w12 ⟨rfl, hbM3⟩; rw [HH.out]; have HA := Lib.hid (HA.out.below hbM3)))
      | (go_at_call 13; (fail_if_success (have := hbM4)); ((refine (selMatch_calls g l _ (HA.out.2.2.2.1 g (by simp)) HM0.out _ x HA.out.1 HX64.out).mono ?_); rintro e w13 ⟨rfl, hbM4⟩; rw [HH.out]; have HA := Lib.hid (HA.out.below hbM4)))
      | (go_at_call 15; (fail_if_success (have := hbB)); ((refine (matchers_calls g2 l _ (HA.out.2.2.2.1 g2 (by simp)) (by omega)).mono ?_); rintro e w14 ⟨vb, rfl, hvb, hbB⟩; have HA := Lib.hid ((HA.out.below hbB).ms hvb); obtain ⟨bA, bc, rfl, -, -⟩ := hvb)))
    go_loopg [90] (l.length + 1) (fun k u90 wr => ∃ i : Nat, u90 = .int .i64 (i : Int) ∧ i + k = l.length + 1 ∧ i ≤ l.length ∧ Hid (Below w14.heap.size w14 wr))
    case atStart => exact ⟨0, rfl, by omega, by omega, Lib.hid (Below.refl _ _)⟩
    case round =>
      obtain ⟨i, rfl, hik, hil, hbel⟩ := hrel
      obtain ⟨wo, rfl⟩ : ∃ m : World, m = wr := ⟨_, rfl⟩
      have HA := Lib.hid (HA.out.below hbel.out)
      by_cases hi : i < l.length
      · have hc1 : decide (i < l.length) = true := decide_eq_true hi
        have hc2 : (i : Int) < (l.length : Int) := by omega
        have hc3 : (0 : Int) ≤ (i : Int) := by omega
        obtain ⟨y, hyl⟩ : ∃ y, l[i]? = some y := ⟨_, List.getElem?_eq_getElem hi⟩
        obtain ⟨A1, c1, e1, -, hm1⟩ := HA.out.2.2.2.2 (.slice A l.length c) (by simp)
        obtain ⟨A2, c2, e2, -, hm2⟩ := HA.out.2.2.2.2 (.slice bA l.length bc) (by simp)
        injection e1 with e1 f1 k1
        injection e2 with e2 f2 k2
        subst e1; subst e2; subst k1; subst k2
        clear f1 f2
        obtain ⟨ga, oa, rfl, hra⟩ := hm1 i y hyl
        obtain ⟨gb, ob, rfl, hrb⟩ := hm2 i y hyl
        obtain ⟨a0, a1, a2⟩ := range3 hra
        obtain ⟨b0, b1, b2⟩ := range3 hrb
        clear hm1 hm2 hra hrb hyl
        go_wp2
        go_quiet (fail)
        go_wp2
        go_roundg (gk - 1)
        case measure => omega
        case rel => exact ⟨i + 1, by go_num, by omega, by omega, Lib.hid (hbel.out.trans ⟨rfl, rfl, rfl, Nat.le_refl _, fun _ _ => rfl⟩)⟩
      · have hc1 : decide (i < l.length) = false := decide_eq_false hi
        obtain rfl : i = l.length := by omega
        go_wp2_with (first
          | (go_at_call 10; (fail_if_success (have := hbW)); ((refine (awake12_calls _ HA.out.2.1).mono ?_); rintro e w15 ⟨rfl, hbW⟩; have HA := Lib.hid (HA.out.below hbW)))
          | (go_at_call 13; (fail_if_success (have := HE1)); ((refine (match_nil _ _).mono ?_); rintro e w16 ⟨rfl, hw⟩; rw [hw]; have HE1 := HH; clear hw))
          | (go_at_call 15; (fail_if_success (have := HE2)); ((refine (matchers_nil _).mono ?_); rintro e w17 ⟨rfl, hw⟩; rw [hw]; have HE2 := HH; clear hw))
          | (go_at_call 18; (fail_if_success (have := hbE)); ((refine (sprint_nil _).mono ?_); rintro e w18 ⟨rfl, hbE⟩; have HA := Lib.hid (HA.out.below hbE))))

        go_ret
        exact ⟨rfl, HA.out.2.2.1⟩
end Go.Proofs.YtmlmnckhiianhaaDoor
