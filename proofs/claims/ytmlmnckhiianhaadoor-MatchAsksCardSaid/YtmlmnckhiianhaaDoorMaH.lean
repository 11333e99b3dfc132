/- The document's Check: what is wrong with matchers, walked. -/
import Derived.Test.YtmlmnckhiianhaaDoorMaP
import Derived.Test.YtmlmnckhiianhaaDoorRfH
namespace Go.Proofs.YtmlmnckhiianhaaDoor
open Go.RowKit Go.Sort
set_option linter.unusedVariables false
set_option linter.unusedSimpArgs false

theorem RParse_bad (s : ByteArray) (er : Nat) (h : Rx.parse (bys s) = .error er) (w : World) :
    Calls Tryd.prog 21 #[.string s] w fun e w' => Below w.heap.size w w' ∧ er ≠ 0 ∧ ∃ K A1 m1 c1 A2 m2 c2, e = .returned (.tuple #[.agg #[.string K, .slice A1 m1 c1, .slice A2 m2 c2], .int .i64 er]) :=
  (RParse_calls s w).mono fun e w' hp => by unfold RParse at hp; rw [h] at hp; exact hp
theorem RParse_ok (s : ByteArray) (x : Rx) (h : Rx.parse (bys s) = .ok x) (w : World) :
    Calls Tryd.prog 21 #[.string s] w fun e w' => Below w.heap.size w w' ∧ ∃ K A1 m1 c1 A2 m2 c2, e = .returned (.tuple #[.agg #[.string K, .slice A1 m1 c1, .slice A2 m2 c2], .int .i64 0]) ∧ NV w' (fun k => w.heap.size ≤ k) (K, .slice A1 m1 c1, .slice A2 m2 c2) x :=
  (RParse_calls s w).mono fun e w' hp => by unfold RParse at hp; rw [h] at hp; exact hp
theorem range3 {w : World} {g p : Nat} {a b c : Value} (h : w.rangeAt g p [a, b, c]) : w.cell? ⟨g, p, none⟩ = some a ∧ w.cell? ⟨g, p + 1, none⟩ = some b ∧ w.cell? ⟨g, p + 2, none⟩ = some c := ⟨h 0 a rfl, h 1 b rfl, h 2 c rfl⟩

set_option maxRecDepth 100000 in
set_option maxHeartbeats 4000000 in
theorem check_calls (v : Value) (l : List SM) (w : World) (hl : MS w v l) : Calls Tryd.prog 9 #[v] w fun e w' => e = .returned (.int .i64 (checkErr (l.map toMat))) ∧ Below w.heap.size w w' := by
  obtain ⟨A, c, rfl, hn2, hm⟩ := hl
  have HM := Lib.hid hm
  clear hm
  by_cases h16 : 16 < l.length
  · rw [checkErr_long h16]
    have hd : (16 : Int) < (l.length : Int) := by omega
    go_enter Tryd.func9, Tryd.ntmps9
    go_wp2
    go_ret
    exact ⟨rfl, Below.refl _ _⟩
  · have hd : decide ((16 : Int) < (l.length : Int)) = false := decide_eq_false (by omega)
    rw [checkErr_short h16]
    generalize hR : matsErr (l.map toMat) = R
    have HR := Lib.hid hR
    clear hR
    go_enter Tryd.func9, Tryd.ntmps9
    go_wp2
    go_loopg [3] (l.length + 1) (fun k u3 wr => ∃ i : Nat, u3 = .int .i64 (i : Int) ∧ i + k = l.length + 1 ∧ i ≤ l.length ∧ Hid (matsErr ((l.drop i).map toMat) = R) ∧ Below w.heap.size w wr)
    case atStart => exact ⟨0, rfl, by omega, by omega, HR, Below.refl _ _⟩
    case round =>
      obtain ⟨i, rfl, hik, hil, HRR, hbel⟩ := hrel
      obtain ⟨wo, rfl⟩ : ∃ m : World, m = wr := ⟨_, rfl⟩
      clear HR
      by_cases hi : i < l.length
      · have hc1 : decide (i < l.length) = true := decide_eq_true hi
        have hc2 : (i : Int) < (l.length : Int) := by omega
        have hc3 : (0 : Int) ≤ (i : Int) := by omega
        obtain ⟨x, hxl⟩ : ∃ x, l[i]? = some x := ⟨_, List.getElem?_eq_getElem hi⟩
        obtain ⟨g, o, rfl, hrg⟩ := HM.out i x hxl
        obtain ⟨x0, x1, x2⟩ := range3 (rangeAt_below hrg hbel)
        have HR2 := Lib.hid (matsErr_cons hxl HRR.out)
        clear hrg hxl HRR
        by_cases ho1 : x.op < 0
        · have hr1 : R = 1 := by have := HR2.out; rw [matErr_range (.inl ho1)] at this; exact this.symm
          subst hr1
          go_wp2
          go_ret
          exact ⟨rfl, hbel⟩
        · by_cases ho2 : 3 < x.op
          · have hr1 : R = 1 := by have := HR2.out; rw [matErr_range (.inr ho2)] at this; exact this.symm
            subst hr1
            have hd1 : decide (x.op < 0) = false := decide_eq_false ho1
            clear ho1
            go_wp2
            go_ret
            exact ⟨rfl, hbel⟩
          · have hro : ¬ (x.op < 0 ∨ 3 < x.op) := by omega
            have hd1 : decide (x.op < 0) = false := decide_eq_false ho1
            have hd2 : decide (3 < x.op) = false := decide_eq_false ho2
            have HRO := Lib.hid hro
            clear ho1 ho2 hro
            cases hnm : nameOK (bys x.name) with
            | false =>
              have hr1 : R = 26 := by have := HR2.out; rw [matErr_name HRO.out (.inl hnm)] at this; exact this.symm
              subst hr1
              have HNM := Lib.hid hnm
              clear hnm
              go_wp2_with (go_at_call 20; ((refine (refName_calls x.name _).mono ?_); rintro e w1 ⟨rfl, hb1⟩; rw [HNM.out]; have c1 := (hb1.cell (World.block_lt_of_cell? _ _ x0)).trans x0; have c2 := (hb1.cell (World.block_lt_of_cell? _ _ x1)).trans x1; have c3 := (hb1.cell (World.block_lt_of_cell? _ _ x2)).trans x2))
              go_ret
              exact ⟨rfl, below_thn hbel hb1⟩
            | true =>
              have HNM := Lib.hid hnm
              clear hnm
              by_cases h64 : 64 < x.value.size
              · have hr1 : R = 26 := by have := HR2.out; rw [matErr_name HRO.out (.inr h64)] at this; exact this.symm
                subst hr1
                have hd3 : decide ((64 : Int) < (x.value.size : Int)) = true := decide_eq_true (by omega)
                clear h64
                go_wp2_with (go_at_call 20; ((refine (refName_calls x.name _).mono ?_); rintro e w1 ⟨rfl, hb1⟩; rw [HNM.out]; have c1 := (hb1.cell (World.block_lt_of_cell? _ _ x0)).trans x0; have c2 := (hb1.cell (World.block_lt_of_cell? _ _ x1)).trans x1; have c3 := (hb1.cell (World.block_lt_of_cell? _ _ x2)).trans x2))
                go_ret
                exact ⟨rfl, below_thn hbel hb1⟩
              · have hd3 : decide ((64 : Int) < (x.value.size : Int)) = false := decide_eq_false (by omega)
                have H64 := Lib.hid h64
                clear h64
                by_cases hop : 2 ≤ x.op
                · have hd4 : decide ((2 : Int) ≤ x.op) = true := decide_eq_true hop
                  have hre := matErr_like HRO.out HNM.out H64.out hop
                  have HOP := Lib.hid hop
                  clear hop
                  unfold parseErr at hre
                  cases hpa : Rx.parse (bys x.value) with
                  | error er =>
                    rw [hpa] at hre
                    simp only at hre
                    have HRE := Lib.hid hre
                    have HPA := Lib.hid hpa
                    clear hre hpa
                    go_wp2_with (first | (go_at_call 20; ((refine (refName_calls x.name _).mono ?_); rintro e w1 ⟨rfl, hb1⟩; rw [HNM.out]; have c1 := (hb1.cell (World.block_lt_of_cell? _ _ x0)).trans x0; have c2 := (hb1.cell (World.block_lt_of_cell? _ _ x1)).trans x1; have c3 := (hb1.cell (World.block_lt_of_cell? _ _ x2)).trans x2)) | (go_at_call 21; ((refine (RParse_bad x.value er HPA.out _).mono ?_); rintro e w2 ⟨hb2, hne0, K, A1, m1, n1, A2, m2, n2, rfl⟩; have hz0 : ((er : Int) == 0) = false := eqb_no hne0)))
                    go_ret
                    have hr1 : R = er := by have := HR2.out; rw [HRE.out, if_neg hne0] at this; exact this.symm
                    subst hr1
                    exact ⟨rfl, (Chg.below (M := fun _ => False) (by repeat (first | exact Chg.of_below hbel | with_reducible apply Chg.setG | with_reducible apply Chg.alloc | with_reducible apply Chg.drewN | with_reducible apply Chg.drew | with_reducible refine Chg.trans ?_ (Chg.of_below hb2) | with_reducible refine Chg.trans ?_ (Chg.of_below hb1))) (fun k _ h => h))⟩
                  | ok r =>
                    rw [hpa] at hre
                    simp only at hre
                    have HRE := Lib.hid (show matsErr ((l.drop (i + 1)).map toMat) = R by have := HR2.out; rw [hre, if_pos rfl] at this; exact this)
                    have HPA := Lib.hid hpa
                    clear hre hpa HR2
                    go_wp2_with (first | (go_at_call 20; ((refine (refName_calls x.name _).mono ?_); rintro e w1 ⟨rfl, hb1⟩; rw [HNM.out]; have c1 := (hb1.cell (World.block_lt_of_cell? _ _ x0)).trans x0; have c2 := (hb1.cell (World.block_lt_of_cell? _ _ x1)).trans x1; have c3 := (hb1.cell (World.block_lt_of_cell? _ _ x2)).trans x2)) | (go_at_call 21; ((refine (RParse_ok x.value r HPA.out _).mono ?_); rintro e w2 ⟨hb2, K, A1, m1, n1, A2, m2, n2, rfl, hnv⟩)))
                    go_roundg (gk - 1)
                    case measure => omega
                    case rel => exact ⟨i + 1, by go_num, by omega, by omega, HRE, (Chg.below (M := fun _ => False) (by repeat (first | exact Chg.of_below hbel | with_reducible apply Chg.setG | with_reducible apply Chg.alloc | with_reducible apply Chg.drewN | with_reducible apply Chg.drew | with_reducible refine Chg.trans ?_ (Chg.of_below hb2) | with_reducible refine Chg.trans ?_ (Chg.of_below hb1))) (fun k _ h => h))⟩
                · have hd4 : decide ((2 : Int) ≤ x.op) = false := decide_eq_false hop
                  have HRE := Lib.hid (show matsErr ((l.drop (i + 1)).map toMat) = R by have := HR2.out; rw [matErr_plain HRO.out HNM.out H64.out hop, if_pos rfl] at this; exact this)
                  have HOP := Lib.hid hop
                  clear hop HR2
                  go_wp2_with (go_at_call 20; ((refine (refName_calls x.name _).mono ?_); rintro e w1 ⟨rfl, hb1⟩; rw [HNM.out]; have c1 := (hb1.cell (World.block_lt_of_cell? _ _ x0)).trans x0; have c2 := (hb1.cell (World.block_lt_of_cell? _ _ x1)).trans x1; have c3 := (hb1.cell (World.block_lt_of_cell? _ _ x2)).trans x2))
                  go_roundg (gk - 1)
                  case measure => omega
                  case rel => exact ⟨i + 1, by go_num, by omega, by omega, HRE, below_thn hbel hb1⟩
      · have hc1 : decide (i < l.length) = false := decide_eq_false hi
        have hr1 : R = 0 := matsErr_end (by omega) HRR.out
        subst hr1
        go_wp2
        go_ret
        exact ⟨rfl, hbel⟩
end Go.Proofs.YtmlmnckhiianhaaDoor
