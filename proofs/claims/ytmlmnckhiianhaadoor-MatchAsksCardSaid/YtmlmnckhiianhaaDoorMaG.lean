/- New: a selector of matchers, walked. -/
import Derived.Test.YtmlmnckhiianhaaDoorMaP
import Derived.Test.YtmlmnckhiianhaaDoorMaQ
import Derived.Deep.RegionLaw
import Derived.Deep.AppendLies
import Derived.Deep.RegionHeld3
namespace Go.Proofs.YtmlmnckhiianhaaDoor
open Go.RowKit Go.Sort
set_option linter.unusedVariables false
set_option linter.unusedSimpArgs false

/-- Ready patterns of matchers: a list of values, one a matcher; those that ask by a pattern have its automaton, in blocks of S. -/
def Rdy (w : World) (S : Nat → Prop) (l : List SM) (vs : List Value) : Prop := vs.length = l.length ∧ ∀ (i : Nat) (x : SM) (v : Value), l[i]? = some x → vs[i]? = some v → (∃ A n c, v = .slice A n c) ∧ (2 ≤ x.op → ∃ r, Rx.parse (bys x.value) = .ok r ∧ RegV w S v r.table)
theorem Rdy.frame {w w' : World} {S S' : Nat → Prop} {l : List SM} {vs : List Value} (h : Rdy w S l vs) (hh : ∀ k, k < w.heap.size → S k → w'.heap[k]? = w.heap[k]? ∧ S' k) : Rdy w' S' l vs :=
  ⟨h.1, fun i x v hx hv => by
    obtain ⟨h1, h2⟩ := h.2 i x v hx hv
    exact ⟨h1, fun ho => by
      obtain ⟨r, h3, h4⟩ := h2 ho
      exact ⟨r, h3, h4.frame hh⟩⟩⟩
theorem Rdy.snoc {w : World} {S : Nat → Prop} {l : List SM} {vs : List Value} {x : SM} {v : Value} (h : Rdy w S l vs) (h1 : ∃ A n c, v = .slice A n c) (h2 : 2 ≤ x.op → ∃ r, Rx.parse (bys x.value) = .ok r ∧ RegV w S v r.table) : Rdy w S (l ++ [x]) (vs ++ [v]) := by
  refine ⟨by simp [h.1], fun i y u hy hu => ?_⟩
  by_cases hi : i < l.length
  · rw [List.getElem?_append_left hi] at hy
    rw [List.getElem?_append_left (by rw [h.1]; exact hi)] at hu
    exact h.2 i y u hy hu
  · have hl := (List.getElem?_eq_some_iff.1 hy).1
    have e : i = l.length := by simp at hl; omega
    subst e
    rw [List.getElem?_append_right (Nat.le_refl _)] at hy
    rw [← h.1, List.getElem?_append_right (Nat.le_refl _)] at hu
    simp at hy hu
    subst hy; subst hu
    exact ⟨h1, h2⟩
/-- A selector at block g. -/
def Sel (w : World) (g : Nat) (l : List SM) : Prop := ∃ (lv rv : Value) (vs : List Value), w.heap[g]? = some (.cells #[lv, rv] 55 (0, 0)) ∧ MS w lv l ∧ (∃ A n c, rv = .slice A n c) ∧ (∃ c A, rv = .slice A l.length c ∧ ∀ i v, vs[i]? = some v → ∃ g o, A = some ⟨g, o, none⟩ ∧ w.cell? ⟨g, o + i, none⟩ = some v) ∧ Rdy w (fun _ => True) l vs
theorem own_sl {w : World} {B T n m : Nat} {v : Value} {cs : List Value} (h : w.ownsRow B T n v m cs) : ∃ A n c, v = .slice A n c := by
  rcases h.2 with ⟨rfl, _⟩ | ⟨g, cap, cur, rfl, _⟩
  · exact ⟨_, _, _, rfl⟩
  · exact ⟨_, _, _, rfl⟩
theorem blk_range {w : World} {g T : Nat} {fr : Nat × Nat} {cs : List Value} (h : w.heap[g]? = some (.cells cs.toArray T fr)) : w.rangeAt g 0 cs := fun j v hv => by
  rw [Nat.zero_add]
  exact (blk_cell h).trans (by simpa using hv)
theorem RS_of_row {w : World} {B T : Nat} {v : Value} {n : Nat} {vs : List Value} (h : w.ownsRow B T 1 v n vs) : ∃ c A, v = .slice A n c ∧ ∀ i u, vs[i]? = some u → ∃ g o, A = some ⟨g, o, none⟩ ∧ w.cell? ⟨g, o + i, none⟩ = some u := by
  rcases h.2 with ⟨rfl, h0⟩ | ⟨g, cap, cur, rfl, hB, hg, h1, h2, h3, h4⟩
  · refine ⟨0, none, by rw [h0], fun i u hu => ?_⟩
    have := (List.getElem?_eq_some_iff.1 hu).1
    have := h.1
    omega
  · refine ⟨cap, _, rfl, fun i u hu => ⟨g, 0, rfl, ?_⟩⟩
    have hi := (List.getElem?_eq_some_iff.1 hu).1
    have hl := h.1
    have ec : w.cell? ⟨g, 0 + i, none⟩ = cur[0 + i]? := blk_cell hg
    rw [ec, Nat.zero_add, ← hu, ← h4, List.getElem?_take_of_lt (by omega)]
    simp
theorem own_apart {a b : Option Nat} (h : a = b → a = none) : b = none ∨ b ≠ a := by
  by_cases e : a = b
  · exact .inl (by rw [← e]; exact h e)
  · exact .inr (fun e' => e e'.symm)
theorem Tryd.infoReg : (Tryd.prog.info? 59).map (fun i => (i.zero, i.size, i.bytes)) = some (some (.agg #[.slice none 0 0]), 1, 24) := by kernel_rfl

set_option maxRecDepth 100000 in
set_option maxHeartbeats 4000000 in
theorem new_calls (v : Value) (l : List SM) (w : World) (hl : MS w v l) : Calls Tryd.prog 11 #[v] w fun e w' => Below w.heap.size w w' ∧ ((checkErr (l.map toMat) ≠ 0 ∧ e = .returned (.tuple #[.pointer none, .int .i64 (checkErr (l.map toMat))])) ∨ (checkErr (l.map toMat) = 0 ∧ ∃ g, e = .returned (.tuple #[.pointer (some ⟨g, 0, none⟩), .int .i64 0]) ∧ Sel w' g l)) := by
  obtain ⟨i0, hinf, hz0, hz1, hz2⟩ := info_parts Tryd.infoMat
  obtain ⟨j0, hjnf, hy0, hy1, hy2⟩ := info_parts Tryd.infoReg
  obtain ⟨A, c, rfl, hn2, hm⟩ := hl
  have HM := Lib.hid hm
  clear hm
  by_cases h16 : 16 < l.length
  · have hce : checkErr (l.map toMat) = 9 := by unfold checkErr; rw [if_pos (by simpa using h16)]
    rw [hce]
    have hd : (16 : Int) < (l.length : Int) := by omega
    clear hce
    go_enter Tryd.func11, Tryd.ntmps11
    go_wp2
    refine bodyPost_ret (v := .tuple #[.pointer none, .int .i64 9]) (by simp [results, Tryd.results11, go_sem]) rfl ?_
    exact ⟨Below.refl _ _, .inl ⟨by decide, rfl⟩⟩
  · have hd : decide ((16 : Int) < (l.length : Int)) = false := decide_eq_false (by omega)
    have hce : checkErr (l.map toMat) = matsErr (l.map toMat) := by unfold checkErr; rw [if_neg (by simpa using h16)]
    rw [hce]
    clear hce
    generalize hR : matsErr (l.map toMat) = R
    have HR := Lib.hid hR
    clear hR
    go_enter Tryd.func11, Tryd.ntmps11
    go_wp2
    go_loopg [16] (l.length + 1) (fun k u16 wr => ∃ (i : Nat) (lv rv : Value) (vs : List Value), u16 = .int .i64 (i : Int) ∧ i + k = l.length + 1 ∧ i ≤ l.length ∧ wr.heap[w.heap.size]? = some (.cells #[lv, rv] 55 (0, 0)) ∧ Hid (wr.ownsRow (w.heap.size + 1) 36 3 lv i (flatM (l.take i))) ∧ Hid (wr.ownsRow (w.heap.size + 1) 59 1 rv i vs) ∧ Hid (lv.ownBlock = rv.ownBlock → lv.ownBlock = none) ∧ Hid (Rdy wr (fun k => w.heap.size < k ∧ some k ≠ lv.ownBlock ∧ some k ≠ rv.ownBlock) (l.take i) vs) ∧ Hid (matsErr ((l.drop i).map toMat) = R) ∧ Hid (Below w.heap.size w wr))
    case atStart => exact ⟨0, _, _, [], rfl, by omega, by omega, blk_new _ _, Lib.hid ⟨rfl, .inl ⟨rfl, rfl⟩⟩, Lib.hid ⟨rfl, .inl ⟨rfl, rfl⟩⟩, Lib.hid (fun _ => rfl), Lib.hid ⟨rfl, fun i x v h => by simp at h⟩, HR, Lib.hid ((Below.refl _ _).alloc (Nat.le_refl _) _)⟩
    case round =>
      obtain ⟨i, lv, rv, vs, rfl, hik, hil, hbx, HOM, HOR, hne, HRD, HRR, hbel⟩ := hrel
      obtain ⟨wo, rfl⟩ : ∃ m : World, m = wr := ⟨_, rfl⟩
      obtain ⟨mA, mN, mC, rfl⟩ : ∃ A n c, lv = .slice A n c := own_sl HOM.out
      obtain ⟨rA, rN, rC, rfl⟩ : ∃ A n c, rv = .slice A n c := own_sl HOR.out
      have b0 : wo.cell? ⟨w.heap.size, 0, none⟩ = some (.slice mA mN mC) := (blk_cell (o := 0) hbx).trans rfl
      have b1 : wo.cell? ⟨w.heap.size, 1, none⟩ = some (.slice rA rN rC) := (blk_cell (o := 1) hbx).trans rfl
      have f0 := blk_free (o := 0) hbx
      have f1 := blk_free (o := 1) hbx
      have zbx := blk_lt hbx
      have HBX := Lib.hid hbx
      clear hbx HR
      by_cases hi : i < l.length
      · have hc1 : decide (i < l.length) = true := decide_eq_true hi
        have hc2 : (i : Int) < (l.length : Int) := by omega
        have hc3 : (0 : Int) ≤ (i : Int) := by omega
        obtain ⟨x, hxl⟩ : ∃ x, l[i]? = some x := ⟨_, List.getElem?_eq_getElem hi⟩
        obtain ⟨g, o, rfl, hrg⟩ := HM.out i x hxl
        have HRG := Lib.hid (rangeAt_below hrg hbel.out)
        have HTK := Lib.hid (show l.take (i + 1) = l.take i ++ [x] by rw [List.take_add_one, hxl]; rfl)
        have hdr : l.drop i = x :: l.drop (i + 1) := by
          rw [List.drop_eq_getElem_cons hi]; congr 1
          rw [List.getElem?_eq_getElem hi] at hxl; injection hxl
        have hrr := HRR.out
        rw [hdr, List.map_cons, matsErr] at hrr
        have HR2 := Lib.hid hrr
        clear hrg hxl hrr HRR hdr
        unfold smCells at HRG
        by_cases ho1 : x.op < 0
        · have hr1 : R = 1 := by have := HR2.out; rw [matErr_range (.inl ho1)] at this; exact this.symm
          subst hr1
          go_wp2_with (refine wpList_load_mid rfl _ (.tmp 18) rfl g (o + i * 3) rfl _ _ HRG.out Tryd.underlying36 rfl (by kernel_rfl) ?_)
          refine bodyPost_ret (v := .tuple #[.pointer none, .int .i64 1]) (by simp [results, Tryd.results11, go_sem]) rfl ?_
          exact ⟨(Chg.below (M := fun _ => False) (by repeat (first | (with_reducible refine Chg.setCell ?_ (.inr (by have := hbC.size; simp at this; simp; omega)) _) | exact Chg.of_below hbel.out | with_reducible apply Chg.alloc | with_reducible apply Chg.drewN | with_reducible apply Chg.drew | with_reducible refine Chg.trans ?_ (Chg.of_below hbC) | with_reducible refine Chg.trans ?_ (Chg.of_below hbP))) (fun k _ h => h)), .inl ⟨by decide, rfl⟩⟩
        · by_cases ho2 : 3 < x.op
          · have hr1 : R = 1 := by have := HR2.out; rw [matErr_range (.inr ho2)] at this; exact this.symm
            subst hr1
            have hd1 : decide (x.op < 0) = false := decide_eq_false ho1
            clear ho1
            go_wp2_with (refine wpList_load_mid rfl _ (.tmp 18) rfl g (o + i * 3) rfl _ _ HRG.out Tryd.underlying36 rfl (by kernel_rfl) ?_)
            refine bodyPost_ret (v := .tuple #[.pointer none, .int .i64 1]) (by simp [results, Tryd.results11, go_sem]) rfl ?_
            exact ⟨(Chg.below (M := fun _ => False) (by repeat (first | (with_reducible refine Chg.setCell ?_ (.inr (by have := hbC.size; simp at this; simp; omega)) _) | exact Chg.of_below hbel.out | with_reducible apply Chg.alloc | with_reducible apply Chg.drewN | with_reducible apply Chg.drew | with_reducible refine Chg.trans ?_ (Chg.of_below hbC) | with_reducible refine Chg.trans ?_ (Chg.of_below hbP))) (fun k _ h => h)), .inl ⟨by decide, rfl⟩⟩
          · have hro : ¬ (x.op < 0 ∨ 3 < x.op) := by omega
            have hd1 : decide (x.op < 0) = false := decide_eq_false ho1
            have hd2 : decide (3 < x.op) = false := decide_eq_false ho2
            have HRO := Lib.hid hro
            clear ho1 ho2 hro
            cases hnm : nameOK (bys x.name) with
            | false =>
              have hr1 : R = 26 := by have := HR2.out; rw [matErr_name HRO.out (.inl hnm)] at this; exact this.symm
              subst hr1
              have HNM := Lib.hid hnm
              clear hnm
              go_wp2_with (first | (refine wpList_load_mid rfl _ (.tmp 18) rfl g (o + i * 3) rfl _ _ HRG.out Tryd.underlying36 rfl (by kernel_rfl) ?_) | (go_at_call 22; (fail_if_success (have := hbC)); ((refine (check_one x.name _ 26 (by rw [HNM.out]; rfl) _ (blk_new' _ _ _ (by simp))).mono ?_); rintro e w3 ⟨rfl, hbC⟩; have z3 := hbC.size; have m0 : w3.cell? ⟨wo.heap.size, 0, none⟩ = some (.string x.name) := (blk_cell (blk_below hbC (blk_alloc (blk_new' _ _ _ (by simp)) _))).trans rfl; have m1 : w3.cell? ⟨wo.heap.size, 1, none⟩ = some (.int .i64 x.op) := (blk_cell (blk_below hbC (blk_alloc (blk_new' _ _ _ (by simp)) _))).trans rfl; have m2 : w3.cell? ⟨wo.heap.size, 2, none⟩ = some (.string x.value) := (blk_cell (blk_below hbC (blk_alloc (blk_new' _ _ _ (by simp)) _))).trans rfl; have s0 : w3.cell? ⟨w.heap.size, 0, none⟩ = some (.slice mA mN mC) := (blk_cell (blk_below hbC (blk_alloc (blk_alloc HBX.out _) _))).trans rfl; have s1 : w3.cell? ⟨w.heap.size, 1, none⟩ = some (.slice rA rN rC) := (blk_cell (blk_below hbC (blk_alloc (blk_alloc HBX.out _) _))).trans rfl; have HM3 := Lib.hid (blk_alloc (blk_below hbC (blk_alloc (blk_new' _ _ _ (by simp)) _)) (.cells #[.slice none 0 0] 59) : (w3.alloc (.cells #[.slice none 0 0] 59)).heap[wo.heap.size]? = some (.cells #[.string x.name, .int .i64 x.op, .string x.value] 36 (0, 0))); have HS3 := Lib.hid (blk_alloc (blk_below hbC (blk_alloc (blk_alloc HBX.out _) _)) (.cells #[.slice none 0 0] 59)); have a0 : (w3.alloc (.cells #[.slice none 0 0] 59)).cell? ⟨wo.heap.size, 0, none⟩ = some (.string x.name) := (blk_cell HM3.out).trans rfl; have a1 : (w3.alloc (.cells #[.slice none 0 0] 59)).cell? ⟨wo.heap.size, 1, none⟩ = some (.int .i64 x.op) := (blk_cell HM3.out).trans rfl; have a2 : (w3.alloc (.cells #[.slice none 0 0] 59)).cell? ⟨wo.heap.size, 2, none⟩ = some (.string x.value) := (blk_cell HM3.out).trans rfl; have e0 : (w3.alloc (.cells #[.slice none 0 0] 59)).cell? ⟨w.heap.size, 0, none⟩ = some (.slice mA mN mC) := (blk_cell HS3.out).trans rfl; have e1 : (w3.alloc (.cells #[.slice none 0 0] 59)).cell? ⟨w.heap.size, 1, none⟩ = some (.slice rA rN rC) := (blk_cell HS3.out).trans rfl)))
              refine bodyPost_ret (v := .tuple #[.pointer none, .int .i64 26]) (by simp [results, Tryd.results11, go_sem]) rfl ?_
              exact ⟨(Chg.below (M := fun _ => False) (by repeat (first | (with_reducible refine Chg.setCell ?_ (.inr (by have := hbC.size; simp at this; simp; omega)) _) | exact Chg.of_below hbel.out | with_reducible apply Chg.alloc | with_reducible apply Chg.drewN | with_reducible apply Chg.drew | with_reducible refine Chg.trans ?_ (Chg.of_below hbC) | with_reducible refine Chg.trans ?_ (Chg.of_below hbP))) (fun k _ h => h)), .inl ⟨by decide, rfl⟩⟩
            | true =>
              have HNM := Lib.hid hnm
              clear hnm
              by_cases h64 : 64 < x.value.size
              · have hr1 : R = 26 := by have := HR2.out; rw [matErr_name HRO.out (.inr h64)] at this; exact this.symm
                subst hr1
                have hd3 : decide ((64 : Int) < (x.value.size : Int)) = true := decide_eq_true (by omega)
                clear h64
                go_wp2_with (first | (refine wpList_load_mid rfl _ (.tmp 18) rfl g (o + i * 3) rfl _ _ HRG.out Tryd.underlying36 rfl (by kernel_rfl) ?_) | (go_at_call 22; (fail_if_success (have := hbC)); ((refine (check_one x.name _ 0 (by rw [HNM.out]; rfl) _ (blk_new' _ _ _ (by simp))).mono ?_); rintro e w3 ⟨rfl, hbC⟩; have z3 := hbC.size; have m0 : w3.cell? ⟨wo.heap.size, 0, none⟩ = some (.string x.name) := (blk_cell (blk_below hbC (blk_alloc (blk_new' _ _ _ (by simp)) _))).trans rfl; have m1 : w3.cell? ⟨wo.heap.size, 1, none⟩ = some (.int .i64 x.op) := (blk_cell (blk_below hbC (blk_alloc (blk_new' _ _ _ (by simp)) _))).trans rfl; have m2 : w3.cell? ⟨wo.heap.size, 2, none⟩ = some (.string x.value) := (blk_cell (blk_below hbC (blk_alloc (blk_new' _ _ _ (by simp)) _))).trans rfl; have s0 : w3.cell? ⟨w.heap.size, 0, none⟩ = some (.slice mA mN mC) := (blk_cell (blk_below hbC (blk_alloc (blk_alloc HBX.out _) _))).trans rfl; have s1 : w3.cell? ⟨w.heap.size, 1, none⟩ = some (.slice rA rN rC) := (blk_cell (blk_below hbC (blk_alloc (blk_alloc HBX.out _) _))).trans rfl; have HM3 := Lib.hid (blk_alloc (blk_below hbC (blk_alloc (blk_new' _ _ _ (by simp)) _)) (.cells #[.slice none 0 0] 59) : (w3.alloc (.cells #[.slice none 0 0] 59)).heap[wo.heap.size]? = some (.cells #[.string x.name, .int .i64 x.op, .string x.value] 36 (0, 0))); have HS3 := Lib.hid (blk_alloc (blk_below hbC (blk_alloc (blk_alloc HBX.out _) _)) (.cells #[.slice none 0 0] 59)); have a0 : (w3.alloc (.cells #[.slice none 0 0] 59)).cell? ⟨wo.heap.size, 0, none⟩ = some (.string x.name) := (blk_cell HM3.out).trans rfl; have a1 : (w3.alloc (.cells #[.slice none 0 0] 59)).cell? ⟨wo.heap.size, 1, none⟩ = some (.int .i64 x.op) := (blk_cell HM3.out).trans rfl; have a2 : (w3.alloc (.cells #[.slice none 0 0] 59)).cell? ⟨wo.heap.size, 2, none⟩ = some (.string x.value) := (blk_cell HM3.out).trans rfl; have e0 : (w3.alloc (.cells #[.slice none 0 0] 59)).cell? ⟨w.heap.size, 0, none⟩ = some (.slice mA mN mC) := (blk_cell HS3.out).trans rfl; have e1 : (w3.alloc (.cells #[.slice none 0 0] 59)).cell? ⟨w.heap.size, 1, none⟩ = some (.slice rA rN rC) := (blk_cell HS3.out).trans rfl)))
                refine bodyPost_ret (v := .tuple #[.pointer none, .int .i64 26]) (by simp [results, Tryd.results11, go_sem]) rfl ?_
                exact ⟨(Chg.below (M := fun _ => False) (by repeat (first | (with_reducible refine Chg.setCell ?_ (.inr (by have := hbC.size; simp at this; simp; omega)) _) | exact Chg.of_below hbel.out | with_reducible apply Chg.alloc | with_reducible apply Chg.drewN | with_reducible apply Chg.drew | with_reducible refine Chg.trans ?_ (Chg.of_below hbC) | with_reducible refine Chg.trans ?_ (Chg.of_below hbP))) (fun k _ h => h)), .inl ⟨by decide, rfl⟩⟩
              · have hd3 : decide ((64 : Int) < (x.value.size : Int)) = false := decide_eq_false (by omega)
                have H64 := Lib.hid h64
                clear h64
                by_cases hop : 2 ≤ x.op
                · have hd4 : decide ((2 : Int) ≤ x.op) = true := decide_eq_true hop
                  have hre := matErr_like HRO.out HNM.out H64.out hop
                  have HOP := Lib.hid hop
                  clear hop
                  unfold parseErr at hre
                  cases hpa : Rx.parse (bys x.value) with
                  | error er =>
                    rw [hpa] at hre
                    simp only at hre
                    have HRE := Lib.hid hre
                    have HPA := Lib.hid hpa
                    clear hre hpa
                    go_wp2_with (first | (refine wpList_load_mid rfl _ (.tmp 18) rfl g (o + i * 3) rfl _ _ HRG.out Tryd.underlying36 rfl (by kernel_rfl) ?_) | (go_at_call 22; (fail_if_success (have := hbC)); ((refine (check_one x.name _ 0 (by rw [HNM.out]; rfl) _ (blk_new' _ _ _ (by simp))).mono ?_); rintro e w3 ⟨rfl, hbC⟩; have z3 := hbC.size; have m0 : w3.cell? ⟨wo.heap.size, 0, none⟩ = some (.string x.name) := (blk_cell (blk_below hbC (blk_alloc (blk_new' _ _ _ (by simp)) _))).trans rfl; have m1 : w3.cell? ⟨wo.heap.size, 1, none⟩ = some (.int .i64 x.op) := (blk_cell (blk_below hbC (blk_alloc (blk_new' _ _ _ (by simp)) _))).trans rfl; have m2 : w3.cell? ⟨wo.heap.size, 2, none⟩ = some (.string x.value) := (blk_cell (blk_below hbC (blk_alloc (blk_new' _ _ _ (by simp)) _))).trans rfl; have s0 : w3.cell? ⟨w.heap.size, 0, none⟩ = some (.slice mA mN mC) := (blk_cell (blk_below hbC (blk_alloc (blk_alloc HBX.out _) _))).trans rfl; have s1 : w3.cell? ⟨w.heap.size, 1, none⟩ = some (.slice rA rN rC) := (blk_cell (blk_below hbC (blk_alloc (blk_alloc HBX.out _) _))).trans rfl; have HM3 := Lib.hid (blk_alloc (blk_below hbC (blk_alloc (blk_new' _ _ _ (by simp)) _)) (.cells #[.slice none 0 0] 59) : (w3.alloc (.cells #[.slice none 0 0] 59)).heap[wo.heap.size]? = some (.cells #[.string x.name, .int .i64 x.op, .string x.value] 36 (0, 0))); have HS3 := Lib.hid (blk_alloc (blk_below hbC (blk_alloc (blk_alloc HBX.out _) _)) (.cells #[.slice none 0 0] 59)); have a0 : (w3.alloc (.cells #[.slice none 0 0] 59)).cell? ⟨wo.heap.size, 0, none⟩ = some (.string x.name) := (blk_cell HM3.out).trans rfl; have a1 : (w3.alloc (.cells #[.slice none 0 0] 59)).cell? ⟨wo.heap.size, 1, none⟩ = some (.int .i64 x.op) := (blk_cell HM3.out).trans rfl; have a2 : (w3.alloc (.cells #[.slice none 0 0] 59)).cell? ⟨wo.heap.size, 2, none⟩ = some (.string x.value) := (blk_cell HM3.out).trans rfl; have e0 : (w3.alloc (.cells #[.slice none 0 0] 59)).cell? ⟨w.heap.size, 0, none⟩ = some (.slice mA mN mC) := (blk_cell HS3.out).trans rfl; have e1 : (w3.alloc (.cells #[.slice none 0 0] 59)).cell? ⟨w.heap.size, 1, none⟩ = some (.slice rA rN rC) := (blk_cell HS3.out).trans rfl)) | (go_at_call 23; (fail_if_success (have := hbP)); ((refine (Parse_bad x.value er HPA.out _).mono ?_); rintro e wP ⟨rfl, hne0, hbP⟩; have hz0 : ((er : Int) == 0) = false := eqb_no hne0; have HMP := Lib.hid (blk_below hbP HM3.out); have HSP := Lib.hid (blk_below hbP HS3.out); have HRP := Lib.hid (blk_below hbP (blk_new w3 _)); have p0 := blk_free (o := 0) HRP.out; have p1 : wP.cell? ⟨w3.heap.size, 0, none⟩ = some (.slice none 0 0) := (blk_cell HRP.out).trans rfl)))
                    have hr1 : R = er := by have := HR2.out; rw [HRE.out, if_neg hne0] at this; exact this.symm
                    subst hr1
                    refine bodyPost_ret (v := .tuple #[.pointer none, .int .i64 R]) (by simp [results, Tryd.results11, go_sem]) rfl ?_
                    exact ⟨(Chg.below (M := fun _ => False) (by repeat (first | (with_reducible refine Chg.setCell ?_ (.inr (by have := hbC.size; simp at this; simp; omega)) _) | exact Chg.of_below hbel.out | with_reducible apply Chg.alloc | with_reducible apply Chg.drewN | with_reducible apply Chg.drew | with_reducible refine Chg.trans ?_ (Chg.of_below hbC) | with_reducible refine Chg.trans ?_ (Chg.of_below hbP))) (fun k _ h => h)), .inl ⟨hne0, rfl⟩⟩
                  | ok r =>
                    rw [hpa] at hre
                    simp only at hre
                    have HRE := Lib.hid (show matsErr ((l.drop (i + 1)).map toMat) = R by have := HR2.out; rw [hre, if_pos rfl] at this; exact this)
                    have HPA := Lib.hid hpa
                    clear hre hpa
                    go_wp2_with (first | (refine wpList_load_mid rfl _ (.tmp 18) rfl g (o + i * 3) rfl _ _ HRG.out Tryd.underlying36 rfl (by kernel_rfl) ?_) | (go_at_call 22; (fail_if_success (have := hbC)); ((refine (check_one x.name _ 0 (by rw [HNM.out]; rfl) _ (blk_new' _ _ _ (by simp))).mono ?_); rintro e w3 ⟨rfl, hbC⟩; have z3 := hbC.size; have m0 : w3.cell? ⟨wo.heap.size, 0, none⟩ = some (.string x.name) := (blk_cell (blk_below hbC (blk_alloc (blk_new' _ _ _ (by simp)) _))).trans rfl; have m1 : w3.cell? ⟨wo.heap.size, 1, none⟩ = some (.int .i64 x.op) := (blk_cell (blk_below hbC (blk_alloc (blk_new' _ _ _ (by simp)) _))).trans rfl; have m2 : w3.cell? ⟨wo.heap.size, 2, none⟩ = some (.string x.value) := (blk_cell (blk_below hbC (blk_alloc (blk_new' _ _ _ (by simp)) _))).trans rfl; have s0 : w3.cell? ⟨w.heap.size, 0, none⟩ = some (.slice mA mN mC) := (blk_cell (blk_below hbC (blk_alloc (blk_alloc HBX.out _) _))).trans rfl; have s1 : w3.cell? ⟨w.heap.size, 1, none⟩ = some (.slice rA rN rC) := (blk_cell (blk_below hbC (blk_alloc (blk_alloc HBX.out _) _))).trans rfl; have HM3 := Lib.hid (blk_alloc (blk_below hbC (blk_alloc (blk_new' _ _ _ (by simp)) _)) (.cells #[.slice none 0 0] 59) : (w3.alloc (.cells #[.slice none 0 0] 59)).heap[wo.heap.size]? = some (.cells #[.string x.name, .int .i64 x.op, .string x.value] 36 (0, 0))); have HS3 := Lib.hid (blk_alloc (blk_below hbC (blk_alloc (blk_alloc HBX.out _) _)) (.cells #[.slice none 0 0] 59)); have a0 : (w3.alloc (.cells #[.slice none 0 0] 59)).cell? ⟨wo.heap.size, 0, none⟩ = some (.string x.name) := (blk_cell HM3.out).trans rfl; have a1 : (w3.alloc (.cells #[.slice none 0 0] 59)).cell? ⟨wo.heap.size, 1, none⟩ = some (.int .i64 x.op) := (blk_cell HM3.out).trans rfl; have a2 : (w3.alloc (.cells #[.slice none 0 0] 59)).cell? ⟨wo.heap.size, 2, none⟩ = some (.string x.value) := (blk_cell HM3.out).trans rfl; have e0 : (w3.alloc (.cells #[.slice none 0 0] 59)).cell? ⟨w.heap.size, 0, none⟩ = some (.slice mA mN mC) := (blk_cell HS3.out).trans rfl; have e1 : (w3.alloc (.cells #[.slice none 0 0] 59)).cell? ⟨w.heap.size, 1, none⟩ = some (.slice rA rN rC) := (blk_cell HS3.out).trans rfl)) | (go_at_call 23; (fail_if_success (have := hbP)); ((refine (Parse_new x.value r HPA.out _).mono ?_); rintro e wP ⟨pv, rfl, ⟨pg, pc, parr, rfl, hp1, hp2, hp3, hp4⟩, hbP⟩; have HRVV := Lib.hid (RegV.frame (S' := fun k => w3.heap.size + 1 ≤ k) (show RegV wP (fun k => (w3.alloc (.cells #[.slice none 0 0] 59)).heap.size ≤ k) (.slice (some ⟨pg, 0, none⟩) r.table.length pc) r.table from ⟨pg, pc, parr, rfl, hp1, hp2, hp3, hp4⟩) (fun k _ hS => ⟨rfl, by simpa using hS⟩)); clear hp1 hp2 hp3 hp4; have HMP := Lib.hid (blk_below hbP HM3.out); have HSP := Lib.hid (blk_below hbP HS3.out); have HRP := Lib.hid (blk_below hbP (blk_new w3 _)); have p0 := blk_free (o := 0) HRP.out; have p1 : wP.cell? ⟨w3.heap.size, 0, none⟩ = some (.slice none 0 0) := (blk_cell HRP.out).trans rfl)))
                    have hzC : wo.heap.size + 2 ≤ w3.heap.size := by have := hbC.size; simp at this; omega
                    obtain ⟨W0, hW0⟩ : ∃ W : World, W = wP.setCell ⟨w3.heap.size, 0, none⟩ (.slice (some ⟨pg, 0, none⟩) r.table.length pc) := ⟨_, rfl⟩
                    have HMW : Hid (W0.heap[wo.heap.size]? = some (.cells #[.string x.name, .int .i64 x.op, .string x.value] 36 (0, 0))) := Lib.hid (by rw [hW0]; exact blk_set_far HMP.out (by have := hzC; simp; omega) _)
                    have HSW : Hid (W0.heap[w.heap.size]? = some (.cells #[.slice mA mN mC, .slice rA rN rC] 55 (0, 0))) := Lib.hid (by rw [hW0]; exact blk_set_far HSP.out (by have := hzC; simp; omega) _)
                    have HRW : Hid (W0.heap[w3.heap.size]? = some (.cells #[.slice (some ⟨pg, 0, none⟩) r.table.length pc] 59 (0, 0))) := Lib.hid (by rw [hW0]; exact (blk_set HRP.out _).trans rfl)
                    have HCW : Hid (Chg (fun _ => False) wo W0) := Lib.hid (by rw [hW0]; refine Chg.setCell ?_ (.inr (by have := hzC; simp; omega)) _; (repeat (first | exact Chg.refl _ _ | with_reducible apply Chg.alloc | with_reducible refine Chg.trans ?_ (Chg.of_below hbC) | with_reducible refine Chg.trans ?_ (Chg.of_below hbP))))
                    have HWP : Hid (∀ k, k ≠ w3.heap.size → W0.heap[k]? = wP.heap[k]?) := Lib.hid (fun k hk => by rw [hW0]; exact Below.heap_setCell _ _ _ _ hk)
                    have HZP : Hid (W0.heap.size = wP.heap.size) := Lib.hid (by rw [hW0]; exact size_set _ _ _)
                    have OM0 : Hid (W0.ownsRow (w.heap.size + 1) 36 3 (.slice mA mN mC) i (flatM (l.take i))) := Lib.hid (ownsRow_of HOM.out (fun k hk => HCW.out.block k (HOM.out.lt k hk).2 (fun h => h)))
                    have OR0 : Hid (W0.ownsRow (w.heap.size + 1) 59 1 (.slice rA rN rC) i vs) := Lib.hid (ownsRow_of HOR.out (fun k hk => HCW.out.block k (HOR.out.lt k hk).2 (fun h => h)))
                    have HC0 : Hid (Chg (fun k => w.heap.size ≤ k) w W0) := Lib.hid ((Chg.of_below (M := fun k => w.heap.size ≤ k) hbel.out).trans' HCW.out (fun _ _ h => h.elim))
                    rw [← hW0]
                    clear a0 a1 a2 e0 e1 m0 m1 m2 s0 s1 b0 b1 f0 f1 p0 p1 hW0
                    have n0 : W0.cell? ⟨wo.heap.size, 0, none⟩ = some (.string x.name) := (blk_cell HMW.out).trans rfl
                    have n1 : W0.cell? ⟨wo.heap.size, 1, none⟩ = some (.int .i64 x.op) := (blk_cell HMW.out).trans rfl
                    have n2 : W0.cell? ⟨wo.heap.size, 2, none⟩ = some (.string x.value) := (blk_cell HMW.out).trans rfl
                    have n3 : W0.cell? ⟨w3.heap.size, 0, none⟩ = some (.slice (some ⟨pg, 0, none⟩) r.table.length pc) := (blk_cell HRW.out).trans rfl
                    have n4 : W0.cell? ⟨w.heap.size, 0, none⟩ = some (.slice mA mN mC) := (blk_cell HSW.out).trans rfl
                    have n5 : W0.cell? ⟨w.heap.size, 1, none⟩ = some (.slice rA rN rC) := (blk_cell HSW.out).trans rfl
                    have zW0 : wo.heap.size < W0.heap.size := blk_lt HMW.out
                    have zR0 : w3.heap.size < W0.heap.size := blk_lt HRW.out
                    have HNM0 : Hid (∀ k, wo.heap.size ≤ k → some k ≠ (Value.slice mA mN mC).ownBlock ∧ some k ≠ (Value.slice rA rN rC).ownBlock) := Lib.hid (fun k hk => ⟨fun e => by have := (HOM.out.lt _ e.symm).2; omega, fun e => by have := (HOR.out.lt _ e.symm).2; omega⟩)
                    have HNS0 : Hid (some w.heap.size ≠ (Value.slice mA mN mC).ownBlock ∧ some w.heap.size ≠ (Value.slice rA rN rC).ownBlock) := Lib.hid ⟨fun e => by have := (HOM.out.lt _ e.symm).1; omega, fun e => by have := (HOR.out.lt _ e.symm).1; omega⟩
                    have HNE0 : Hid ((Value.slice rA rN rC).ownBlock = none ∨ (Value.slice rA rN rC).ownBlock ≠ (Value.slice mA mN mC).ownBlock) := Lib.hid (own_apart hne.out)
                    refine wp_region_G (S := (fun u : World => u.heap[wo.heap.size]? = some (.cells #[.string x.name, .int .i64 x.op, .string x.value] 36 (0, 0)) ∧ u.heap[w3.heap.size]? = some (.cells #[.slice (some ⟨pg, 0, none⟩) r.table.length pc] 59 (0, 0)))) (T := (fun u : World => (u.heap[wo.heap.size]? = some (.cells #[.string x.name, .int .i64 x.op, .string x.value] 36 (0, 0)) ∧ u.heap[w3.heap.size]? = some (.cells #[.slice (some ⟨pg, 0, none⟩) r.table.length pc] 59 (0, 0))) ∧ u.heap[w.heap.size]? = some (.cells #[.slice mA mN mC, .slice rA rN rC] 55 (0, 0)))) (late := fun i => !([5, 7, 8, 12, 14, 15].contains i)) (by kernel_rfl) ?_
                    have hT0 := Lib.hid (show (fun u : World => (u.heap[wo.heap.size]? = some (.cells #[.string x.name, .int .i64 x.op, .string x.value] 36 (0, 0)) ∧ u.heap[w3.heap.size]? = some (.cells #[.slice (some ⟨pg, 0, none⟩) r.table.length pc] 59 (0, 0))) ∧ u.heap[w.heap.size]? = some (.cells #[.slice mA mN mC, .slice rA rN rC] 55 (0, 0))) W0.drew from ⟨⟨HMW.out, HRW.out⟩, HSW.out⟩)
                    refine anyG_takeS (i := 0) (d := some 53) (v := .pointer (some ⟨w.heap.size, 0, none⟩)) rfl rfl (by kernel_rfl) (by kernel_rfl) (by kernel_rfl) rfl (fun _ _ _ h => h) hT0.out.1 (.inl ⟨rfl, fun _ _ => rfl⟩) ?_
                    simp only [Act.put, List.setIfInBounds_toArray, List.set_cons_zero, List.set_cons_succ]
                    refine anyG_takeS (i := 1) (d := some 54) (v := .pointer (some ⟨w.heap.size, 0, none⟩)) rfl rfl (by kernel_rfl) (by kernel_rfl) (by kernel_rfl) rfl (fun _ _ _ h => h) hT0.out.1 (.inl ⟨rfl, fun _ _ => rfl⟩) ?_
                    simp only [Act.put, List.setIfInBounds_toArray, List.set_cons_zero, List.set_cons_succ]
                    refine anyG_takeS (i := 2) (d := some 55) (v := .pointer (some ⟨w.heap.size, 0, none⟩)) rfl rfl (by kernel_rfl) (by kernel_rfl) (by kernel_rfl) rfl (fun _ _ _ h => h) hT0.out.1 (.inl ⟨rfl, fun _ _ => rfl⟩) ?_
                    simp only [Act.put, List.setIfInBounds_toArray, List.set_cons_zero, List.set_cons_succ]
                    refine anyG_takeS (i := 3) (d := some 56) (v := .pointer (some ⟨w.heap.size, 0, none⟩)) rfl rfl (by kernel_rfl) (by kernel_rfl) (by kernel_rfl) rfl (fun _ _ _ h => h) hT0.out.1 (.inl ⟨rfl, fun _ _ => rfl⟩) ?_
                    simp only [Act.put, List.setIfInBounds_toArray, List.set_cons_zero, List.set_cons_succ]
                    refine anyG_takeS (i := 4) (d := some 57) (v := .pointer (some ⟨w.heap.size, 0, none⟩)) rfl rfl (by kernel_rfl) (by kernel_rfl) (by kernel_rfl) rfl (fun _ _ _ h => h) hT0.out.1 (.inl ⟨rfl, fun _ _ => rfl⟩) ?_
                    simp only [Act.put, List.setIfInBounds_toArray, List.set_cons_zero, List.set_cons_succ]
                    refine anyG_takeS (i := 9) (d := some 62) (v := .pointer (some ⟨w.heap.size, 0, none⟩)) rfl rfl (by kernel_rfl) (by kernel_rfl) (by kernel_rfl) rfl (fun _ _ _ h => h) hT0.out.1 (.inl ⟨rfl, fun _ _ => rfl⟩) ?_
                    simp only [Act.put, List.setIfInBounds_toArray, List.set_cons_zero, List.set_cons_succ]
                    refine anyG_takeS (i := 10) (d := some 63) (v := .pointer (some ⟨w.heap.size, 0, none⟩)) rfl rfl (by kernel_rfl) (by kernel_rfl) (by kernel_rfl) rfl (fun _ _ _ h => h) hT0.out.1 (.inl ⟨rfl, fun _ _ => rfl⟩) ?_
                    simp only [Act.put, List.setIfInBounds_toArray, List.set_cons_zero, List.set_cons_succ]
                    refine anyG_takeS (i := 11) (d := some 64) (v := .pointer (some ⟨w.heap.size, 1, none⟩)) rfl rfl (by kernel_rfl) (by kernel_rfl) (by kernel_rfl) rfl (fun _ _ _ h => h) hT0.out.1 (.inl ⟨rfl, fun _ _ => rfl⟩) ?_
                    simp only [Act.put, List.setIfInBounds_toArray, List.set_cons_zero, List.set_cons_succ]
                    refine anyG_takeS (i := 6) (d := some 59) (v := .agg #[.string x.name, .int .i64 x.op, .string x.value]) rfl rfl (by kernel_rfl) (by kernel_rfl) (by kernel_rfl) rfl (fun _ _ _ h => h) hT0.out.1 (yieldsIf_load_mid rfl 36 (.tmp 6) rfl wo.heap.size 0 rfl [.string x.name, .int .i64 x.op, .string x.value] _ (fun u hu => blk_range hu.1) Tryd.underlying36 rfl (by kernel_rfl)) ?_
                    simp only [Act.put, List.setIfInBounds_toArray, List.set_cons_zero, List.set_cons_succ]
                    refine anyG_takeS (i := 13) (d := some 66) (v := .agg #[.slice (some ⟨pg, 0, none⟩) r.table.length pc]) rfl rfl (by kernel_rfl) (by kernel_rfl) (by kernel_rfl) rfl (fun _ _ _ h => h) hT0.out.1 (yieldsIf_load_mid rfl 59 (.tmp 7) rfl w3.heap.size 0 rfl [.slice (some ⟨pg, 0, none⟩) r.table.length pc] _ (fun u hu => blk_range hu.2) Tryd.underlying59 rfl (by kernel_rfl)) ?_
                    simp only [Act.put, List.setIfInBounds_toArray, List.set_cons_zero, List.set_cons_succ]
                    refine anyG_takeT (i := 5) (d := some 58) (v := .slice mA mN mC) rfl rfl (by kernel_rfl) (by kernel_rfl) (by kernel_rfl) (by kernel_rfl) (fun _ _ _ h => h) (fun _ h => h.1) hT0.out (.inl ⟨rfl, fun u hu => by have q := (blk_cell (o := 0) hu.2).trans rfl; go_simp⟩) ?_
                    simp only [Act.put, List.setIfInBounds_toArray, List.set_cons_zero, List.set_cons_succ]
                    refine anyG_takeT (i := 12) (d := some 65) (v := .slice rA rN rC) rfl rfl (by kernel_rfl) (by kernel_rfl) (by kernel_rfl) (by kernel_rfl) (fun _ _ _ h => h) (fun _ h => h.1) hT0.out (.inl ⟨rfl, fun u hu => by have q := (blk_cell (o := 1) hu.2).trans rfl; go_simp⟩) ?_
                    simp only [Act.put, List.setIfInBounds_toArray, List.set_cons_zero, List.set_cons_succ]
                    refine anyG_all (rs := [7, 14]) (by kernel_rfl) (by simp) ?_
                    intro j hj
                    simp only [List.mem_cons, List.not_mem_nil, or_false] at hj
                    rcases hj with rfl | rfl
                    · refine anyG_op (late := fun i => !([5, 7, 8, 12, 14, 15].contains i)) (i := 7) (o := { dst := some 60, op := .buildSlice 33 1 #[(0, .tmp 59)], type := 33, pos := "match.go:55", after := #[{ on := 6, ground := .data }], guard := none }) (by rfl) (by rfl) (fun K' hK => ?_)
                      go_simp
                      refine hK.out _ _ ⟨by first | exact blk_alloc (w := W0.drew) HMW.out _ | exact blk_alloc (blk_alloc (w := W0.drew) HMW.out _) _, by first | exact blk_alloc (w := W0.drew) HRW.out _ | exact blk_alloc (blk_alloc (w := W0.drew) HRW.out _) _⟩ (fun _ => ⟨⟨by first | exact blk_alloc (w := W0.drew) HMW.out _ | exact blk_alloc (blk_alloc (w := W0.drew) HMW.out _) _, by first | exact blk_alloc (w := W0.drew) HRW.out _ | exact blk_alloc (blk_alloc (w := W0.drew) HRW.out _) _⟩, by first | exact blk_alloc (w := W0.drew) HSW.out _ | exact blk_alloc (blk_alloc (w := W0.drew) HSW.out _) _⟩) ?_
                      clear hK K'
                      refine anyG_all (rs := [8, 14]) (by kernel_rfl) (by simp) ?_
                      intro j hj
                      simp only [List.mem_cons, List.not_mem_nil, or_false] at hj
                      rcases hj with rfl | rfl
                      · refine anyG_op (late := fun i => !([5, 7, 8, 12, 14, 15].contains i)) (i := 8) (o := { dst := some 61, op := .call { callee := .builtin .append, args := #[.tmp 58, .tmp 60], argTypes := #[33, 33] }, type := 33, pos := "match.go:55", after := #[{ on := 5, ground := .data }, { on := 7, ground := .data }], guard := none }) (by rfl) (by rfl) (fun K' hK => ?_)
                        refine wp_append_lies _ (.tmp 58) (.tmp 60) 33 (by rfl) (w.heap.size + 1) 36 i0 (.agg #[.string ⟨#[]⟩, .int .i64 0, .string ⟨#[]⟩]) 3 40 Tryd.underlying33 hinf hz0 hz1 hz2 rfl (by decide) (.slice mA mN mC) i (flatM (l.take i)) (by rfl) (by first | exact World.ownsRow.alloc (w := W0.drew) OM0.out _ | exact (World.ownsRow.alloc (w := W0.drew) OM0.out _).alloc _) ⟨_, 0, none⟩ 1 1 [.string x.name, .int .i64 x.op, .string x.value] (by rfl) rfl (World.news_of_block (by first | exact blk_new _ _ | exact blk_alloc (blk_new _ _) _ | exact blk_new' _ _ _ (by simp))) (fun u hu => by simp at hu; rcases hu with rfl | rfl | rfl <;> rfl) (by decide) (by unfold maxLen; omega) (by omega) (by simp; omega) _ rfl (fun g1 cap w4 hown4 hgr4 hor4 hlt4 => ?_)
                        have hz4 : Hid (W0.heap.size ≤ w4.heap.size) := Lib.hid (by have := hgr4.size; simp at this; omega)
                        have HM4 := Lib.hid (blk_grown (by first | exact HMW.out | exact blk_alloc (w := W0.drew) HMW.out _ | exact blk_alloc (blk_alloc (w := W0.drew) HMW.out _) _) hgr4 (HNM0.out _ (Nat.le_refl _)).1)
                        have HS4 := Lib.hid (blk_grown (by first | exact HSW.out | exact blk_alloc (w := W0.drew) HSW.out _ | exact blk_alloc (blk_alloc (w := W0.drew) HSW.out _) _) hgr4 HNS0.out.1)
                        have HR4 := Lib.hid (blk_grown (by first | exact HRW.out | exact blk_alloc (w := W0.drew) HRW.out _ | exact blk_alloc (blk_alloc (w := W0.drew) HRW.out _) _) hgr4 (HNM0.out _ (by omega)).1)
                        have OR4 := Lib.hid (World.ownsRow.kept (by first | exact World.ownsRow.alloc (w := W0.drew) OR0.out _ | exact (World.ownsRow.alloc (w := W0.drew) OR0.out _).alloc _) hgr4 HNE0.out)
                        have HG1 : Hid (some g1 ≠ (Value.slice rA rN rC).ownBlock) := Lib.hid (fun e => by
                          rcases hor4 with h4 | h4
                          · exact absurd (hne.out (h4.trans e)) (by rw [h4]; simp)
                          · have := (OR0.out.lt _ e.symm).2
                            simp at h4; omega)
                        have HB4 : Hid (∀ k, k < W0.heap.size → some k ≠ (Value.slice mA mN mC).ownBlock → w4.heap[k]? = W0.heap[k]?) := Lib.hid (fun k hk hm => (hgr4.block k (by simp; omega) hm).trans (by first | exact Below.heap_alloc W0 _ k hk | exact (Below.heap_alloc _ _ k (by simp; omega)).trans (Below.heap_alloc W0 _ k hk)))
                        have HE4 : Hid (∀ k, k < W0.heap.size → some k ≠ (Value.slice mA mN mC).ownBlock → k ≠ g1) := Lib.hid (fun k hk hm e => by
                          rcases hor4 with h4 | h4
                          · exact hm (by rw [e, h4])
                          · simp at h4; omega)
                        have HC4 : Hid (Chg (fun k => w.heap.size ≤ k) w w4) := Lib.hid (by first | exact ((HC0.out.alloc _).drew).grown hgr4 (fun k hk => .inl (by have := (OM0.out.lt k hk).1; omega)) | exact (((HC0.out.alloc _).alloc _).drew).grown hgr4 (fun k hk => .inl (by have := (OM0.out.lt k hk).1; omega)))
                        refine hK.out _ _ ⟨HM4.out, HR4.out⟩ (fun _ => ⟨⟨HM4.out, HR4.out⟩, HS4.out⟩) ?_
                        clear hK K'
                        simp only [Act.put, List.setIfInBounds_toArray, List.set_cons_zero, List.set_cons_succ]
                        refine anyG_all (rs := [14]) (by kernel_rfl) (by simp) ?_
                        intro j hj
                        simp only [List.mem_cons, List.not_mem_nil, or_false] at hj
                        subst hj
                        refine anyG_op (late := fun i => !([5, 7, 8, 12, 14, 15].contains i)) (i := 14) (o := { dst := some 67, op := .buildSlice 53 1 #[(0, .tmp 66)], type := 53, pos := "match.go:55", after := #[{ on := 13, ground := .data }], guard := none }) (by rfl) (by rfl) (fun K' hK => ?_)
                        go_simp
                        refine hK.out _ _ ⟨by first | exact HM4.out | exact blk_alloc HM4.out _, by first | exact HR4.out | exact blk_alloc HR4.out _⟩ (fun _ => ⟨⟨by first | exact HM4.out | exact blk_alloc HM4.out _, by first | exact HR4.out | exact blk_alloc HR4.out _⟩, by first | exact HS4.out | exact blk_alloc HS4.out _⟩) ?_
                        clear hK K'
                        refine anyG_all (rs := [15]) (by kernel_rfl) (by simp) ?_
                        intro j hj
                        simp only [List.mem_cons, List.not_mem_nil, or_false] at hj
                        subst hj
                        refine anyG_op (late := fun i => !([5, 7, 8, 12, 14, 15].contains i)) (i := 15) (o := { dst := some 68, op := .call { callee := .builtin .append, args := #[.tmp 65, .tmp 67], argTypes := #[53, 53] }, type := 53, pos := "match.go:55", after := #[{ on := 12, ground := .data }, { on := 14, ground := .data }, { on := 8, ground := .chain }], guard := none }) (by rfl) (by rfl) (fun K' hK => ?_)
                        refine wp_append_lies _ (.tmp 65) (.tmp 67) 53 (by rfl) (w.heap.size + 1) 59 j0 (.agg #[.slice none 0 0]) 1 24 Tryd.underlying53 hjnf hy0 hy1 hy2 rfl (by decide) (.slice rA rN rC) i vs (by rfl) (by first | exact OR4.out | exact OR4.out.alloc _) ⟨_, 0, none⟩ 1 1 [.slice (some ⟨pg, 0, none⟩) r.table.length pc] (by rfl) rfl (World.news_of_block (by first | exact blk_new _ _ | (refine blk_grown ?_ hgr4 (HNM0.out _ (by first | omega | (simp; omega))).1; first | exact blk_new _ _ | exact blk_alloc (blk_new _ _) _ | exact blk_new' _ _ _ (by simp)))) (fun u hu => by simp at hu; subst hu; rfl) (by decide) (by unfold maxLen; omega) (by omega) (by have := hz4.out; first | omega | (simp; omega)) _ rfl (fun g2 cap2 w5 hown5 hgr5 hor5 hlt5 => ?_)
                        have HM5 := Lib.hid (blk_grown (by first | exact HM4.out | exact blk_alloc HM4.out _) hgr5 (HNM0.out _ (Nat.le_refl _)).2)
                        have HS5 := Lib.hid (blk_grown (by first | exact HS4.out | exact blk_alloc HS4.out _) hgr5 HNS0.out.2)
                        have HR5 := Lib.hid (blk_grown (by first | exact HR4.out | exact blk_alloc HR4.out _) hgr5 (HNM0.out _ (by omega)).2)
                        have OM5 := Lib.hid (World.ownsRow.kept (by first | exact hown4 | exact hown4.alloc _) hgr5 (.inr (show (Value.slice (some ⟨g1, 0, none⟩) (i + 1) cap).ownBlock ≠ _ from HG1.out)))
                        have HG2 : Hid (g1 ≠ g2) := Lib.hid (fun e => by
                          rcases hor5 with h5 | h5
                          · exact HG1.out (by rw [e, h5])
                          · first | (simp at h5; omega) | omega)
                        have HB5 : Hid (∀ k, k < W0.heap.size → some k ≠ (Value.slice mA mN mC).ownBlock → some k ≠ (Value.slice rA rN rC).ownBlock → w5.heap[k]? = W0.heap[k]?) := Lib.hid (fun k hk hm hr => (hgr5.block k (by have := hz4.out; first | omega | (simp; omega)) hr).trans (by first | exact HB4.out k hk hm | exact (Below.heap_alloc _ _ k (by have := hz4.out; omega)).trans (HB4.out k hk hm)))
                        have HE5 : Hid (∀ k, k < W0.heap.size → some k ≠ (Value.slice rA rN rC).ownBlock → k ≠ g2) := Lib.hid (fun k hk hm e => by
                          rcases hor5 with h5 | h5
                          · exact hm (by rw [e, h5])
                          · have := hz4.out; first | omega | (simp at h5; omega))
                        have HC5 : Hid (Chg (fun k => w.heap.size ≤ k) w w5) := Lib.hid (by first | exact HC4.out.grown hgr5 (fun k hk => .inl (by have := (OR0.out.lt k hk).1; omega)) | exact (HC4.out.alloc _).grown hgr5 (fun k hk => .inl (by have := (OR0.out.lt k hk).1; omega)))
                        refine hK.out _ _ ⟨HM5.out, HR5.out⟩ (fun _ => ⟨⟨HM5.out, HR5.out⟩, HS5.out⟩) ?_
                        clear hK K'
                        simp only [Act.put, List.setIfInBounds_toArray, List.set_cons_zero, List.set_cons_succ]
                        have y0 := blk_free (o := 0) HS5.out
                        have y1 : w5.cell? ⟨w.heap.size, 0, none⟩ = some (.slice mA mN mC) := (blk_cell HS5.out).trans rfl
                        refine anyG_takeS (i := 16) (d := some 69) (v := .pointer (some ⟨w.heap.size, 0, none⟩)) rfl rfl (by kernel_rfl) (by kernel_rfl) (by kernel_rfl) rfl (fun _ _ _ h => h) ⟨HM5.out, HR5.out⟩ (.inl ⟨rfl, fun _ _ => rfl⟩) ?_
                        simp only [Act.put, List.setIfInBounds_toArray, List.set_cons_zero, List.set_cons_succ]
                        refine anyG_takeS (i := 17) (d := some 70) (v := .pointer (some ⟨w.heap.size, 0, none⟩)) rfl rfl (by kernel_rfl) (by kernel_rfl) (by kernel_rfl) rfl (fun _ _ _ h => h) ⟨HM5.out, HR5.out⟩ (.inl ⟨rfl, fun _ _ => rfl⟩) ?_
                        simp only [Act.put, List.setIfInBounds_toArray, List.set_cons_zero, List.set_cons_succ]
                        refine anyG_all (rs := [18]) (by kernel_rfl) (by simp) ?_
                        intro j hj
                        simp only [List.mem_cons, List.not_mem_nil, or_false] at hj
                        subst hj
                        refine anyG_op (late := fun i => !([5, 7, 8, 12, 14, 15].contains i)) (i := 18) (o := { dst := none, op := .store 33 (.tmp 70) (.tmp 61), type := 0, pos := "match.go:55", after := #[{ on := 17, ground := .data }, { on := 8, ground := .data }, { on := 15, ground := .chain }, { on := 0, ground := .phase }, { on := 1, ground := .textOnly .lateStores }, { on := 2, ground := .phase }, { on := 3, ground := .phase }, { on := 4, ground := .phase }, { on := 5, ground := .phase }, { on := 6, ground := .phase }, { on := 7, ground := .phase }, { on := 8, ground := .phase }, { on := 9, ground := .textOnly .lateStores }, { on := 10, ground := .textOnly .lateStoresUnsure }, { on := 11, ground := .textOnly .lateStoresUnsure }, { on := 12, ground := .phase }, { on := 13, ground := .textOnly .lateStores }, { on := 14, ground := .textOnly .lateStoresUnsure }, { on := 15, ground := .phase }], guard := none }) (by rfl) (by rfl) (fun K' hK => ?_)
                        go_simp
                        have HS6 := Lib.hid (show (w5.setCell ⟨w.heap.size, 0, none⟩ (.slice (some ⟨g1, 0, none⟩) (i + 1) cap)).heap[w.heap.size]? = some (.cells #[.slice (some ⟨g1, 0, none⟩) (i + 1) cap, .slice rA rN rC] 55 (0, 0)) from (blk_set HS5.out _).trans rfl)
                        have HM6 := Lib.hid (blk_set_far HM5.out (p := ⟨w.heap.size, 0, none⟩) (by simp; omega) (.slice (some ⟨g1, 0, none⟩) (i + 1) cap))
                        have HR6 := Lib.hid (blk_set_far HR5.out (p := ⟨w.heap.size, 0, none⟩) (by simp; omega) (.slice (some ⟨g1, 0, none⟩) (i + 1) cap))
                        refine hK.out _ _ ⟨HM6.out, HR6.out⟩ (fun e => absurd e (by decide)) ?_
                        clear hK K'
                        clear y0 y1
                        have y2 := blk_free (o := 1) HS6.out
                        have y3 : (w5.setCell ⟨w.heap.size, 0, none⟩ (.slice (some ⟨g1, 0, none⟩) (i + 1) cap)).cell? ⟨w.heap.size, 1, none⟩ = some (.slice rA rN rC) := (blk_cell HS6.out).trans rfl
                        refine anyG_takeS (i := 19) (d := some 71) (v := .pointer (some ⟨w.heap.size, 0, none⟩)) rfl rfl (by kernel_rfl) (by kernel_rfl) (by kernel_rfl) rfl (fun _ _ _ h => h) ⟨HM6.out, HR6.out⟩ (.inl ⟨rfl, fun _ _ => rfl⟩) ?_
                        simp only [Act.put, List.setIfInBounds_toArray, List.set_cons_zero, List.set_cons_succ]
                        refine anyG_takeS (i := 20) (d := some 72) (v := .pointer (some ⟨w.heap.size, 1, none⟩)) rfl rfl (by kernel_rfl) (by kernel_rfl) (by kernel_rfl) rfl (fun _ _ _ h => h) ⟨HM6.out, HR6.out⟩ (.inl ⟨rfl, fun _ _ => rfl⟩) ?_
                        simp only [Act.put, List.setIfInBounds_toArray, List.set_cons_zero, List.set_cons_succ]
                        refine anyG_all (rs := [21]) (by kernel_rfl) (by simp) ?_
                        intro j hj
                        simp only [List.mem_cons, List.not_mem_nil, or_false] at hj
                        subst hj
                        refine anyG_op (late := fun i => !([5, 7, 8, 12, 14, 15].contains i)) (i := 21) (o := { dst := none, op := .store 53 (.tmp 72) (.tmp 68), type := 0, pos := "match.go:55", after := #[{ on := 20, ground := .data }, { on := 15, ground := .data }, { on := 18, ground := .chain }, { on := 0, ground := .phase }, { on := 1, ground := .phase }, { on := 2, ground := .phase }, { on := 3, ground := .phase }, { on := 4, ground := .phase }, { on := 5, ground := .phase }, { on := 6, ground := .phase }, { on := 7, ground := .phase }, { on := 8, ground := .phase }, { on := 9, ground := .phase }, { on := 10, ground := .phase }, { on := 11, ground := .phase }, { on := 12, ground := .phase }, { on := 13, ground := .phase }, { on := 14, ground := .phase }, { on := 15, ground := .phase }, { on := 16, ground := .phase }, { on := 17, ground := .phase }, { on := 18, ground := .phase }], guard := none }) (by rfl) (by rfl) (fun K' hK => ?_)
                        go_simp
                        refine hK.out _ _ ⟨blk_set_far HM6.out (by simp; omega) _, blk_set_far HR6.out (by simp; omega) _⟩ (fun e => absurd e (by decide)) ?_
                        clear hK K'
                        refine anyG_end (by kernel_rfl) ?_
                        refine NoPanic.normal ?_
                        go_wp2
                        have HBS : Hid (∀ k, k ≠ w.heap.size → ((w5.setCell ⟨w.heap.size, 0, none⟩ (.slice (some ⟨g1, 0, none⟩) (i + 1) cap)).setCell ⟨w.heap.size, 1, none⟩ (.slice (some ⟨g2, 0, none⟩) (i + 1) cap2)).heap[k]? = w5.heap[k]?) := Lib.hid (fun k hk => (Below.heap_setCell _ _ _ _ hk).trans (Below.heap_setCell _ _ _ _ hk))
                        go_roundg (gk - 1)
                        case measure => omega
                        case rel => exact ⟨i + 1, _, _, vs ++ [.slice (some ⟨pg, 0, none⟩) r.table.length pc], by go_num, by omega, by omega, (blk_set HS6.out _).trans rfl, Lib.hid (by rw [HTK.out, flatM_snoc]; exact ownsRow_of OM5.out (fun k hk => HBS.out k (by have := (OM5.out.lt k hk).1; omega))), Lib.hid (ownsRow_of hown5 (fun k hk => HBS.out k (by have := (hown5.lt k hk).1; omega))), Lib.hid (fun e => absurd (Option.some.inj (show some g1 = some g2 from e)) HG2.out), Lib.hid (by rw [HTK.out]; exact Rdy.snoc (Rdy.frame HRD.out (fun k hk hS => ⟨((HBS.out k (by have := hS.1; omega)).trans (HB5.out k (by omega) hS.2.1 hS.2.2)).trans (HCW.out.block k hk (fun h => h)), hS.1, fun e => HE4.out k (by omega) hS.2.1 (Option.some.inj e), fun e => HE5.out k (by omega) hS.2.2 (Option.some.inj e)⟩)) ⟨_, _, _, rfl⟩ (fun _ => ⟨r, HPA.out, RegV.frame HRVV.out (fun k hk hS => ⟨((HBS.out k (by omega)).trans (HB5.out k (by rw [HZP.out]; exact hk) (HNM0.out k (by omega)).1 (HNM0.out k (by omega)).2)).trans (HWP.out k (by omega)), by omega, fun e => HE4.out k (by rw [HZP.out]; exact hk) (HNM0.out k (by omega)).1 (Option.some.inj e), fun e => HE5.out k (by rw [HZP.out]; exact hk) (HNM0.out k (by omega)).2 (Option.some.inj e)⟩)⟩)), HRE, Lib.hid (((HC5.out.setCell (.inr (Nat.le_refl _)) _).setCell (.inr (Nat.le_refl _)) _).below (fun k hk h => by omega))⟩
                      · refine anyG_op (late := fun i => !([5, 7, 8, 12, 14, 15].contains i)) (i := 14) (o := { dst := some 67, op := .buildSlice 53 1 #[(0, .tmp 66)], type := 53, pos := "match.go:55", after := #[{ on := 13, ground := .data }], guard := none }) (by rfl) (by rfl) (fun K' hK => ?_)
                        go_simp
                        refine hK.out _ _ ⟨by first | exact blk_alloc (w := W0.drew) HMW.out _ | exact blk_alloc (blk_alloc (w := W0.drew) HMW.out _) _, by first | exact blk_alloc (w := W0.drew) HRW.out _ | exact blk_alloc (blk_alloc (w := W0.drew) HRW.out _) _⟩ (fun _ => ⟨⟨by first | exact blk_alloc (w := W0.drew) HMW.out _ | exact blk_alloc (blk_alloc (w := W0.drew) HMW.out _) _, by first | exact blk_alloc (w := W0.drew) HRW.out _ | exact blk_alloc (blk_alloc (w := W0.drew) HRW.out _) _⟩, by first | exact blk_alloc (w := W0.drew) HSW.out _ | exact blk_alloc (blk_alloc (w := W0.drew) HSW.out _) _⟩) ?_
                        clear hK K'
                        refine anyG_all (rs := [8]) (by kernel_rfl) (by simp) ?_
                        intro j hj
                        simp only [List.mem_cons, List.not_mem_nil, or_false] at hj
                        subst hj
                        refine anyG_op (late := fun i => !([5, 7, 8, 12, 14, 15].contains i)) (i := 8) (o := { dst := some 61, op := .call { callee := .builtin .append, args := #[.tmp 58, .tmp 60], argTypes := #[33, 33] }, type := 33, pos := "match.go:55", after := #[{ on := 5, ground := .data }, { on := 7, ground := .data }], guard := none }) (by rfl) (by rfl) (fun K' hK => ?_)
                        refine wp_append_lies _ (.tmp 58) (.tmp 60) 33 (by rfl) (w.heap.size + 1) 36 i0 (.agg #[.string ⟨#[]⟩, .int .i64 0, .string ⟨#[]⟩]) 3 40 Tryd.underlying33 hinf hz0 hz1 hz2 rfl (by decide) (.slice mA mN mC) i (flatM (l.take i)) (by rfl) (by first | exact World.ownsRow.alloc (w := W0.drew) OM0.out _ | exact (World.ownsRow.alloc (w := W0.drew) OM0.out _).alloc _) ⟨_, 0, none⟩ 1 1 [.string x.name, .int .i64 x.op, .string x.value] (by rfl) rfl (World.news_of_block (by first | exact blk_new _ _ | exact blk_alloc (blk_new _ _) _ | exact blk_new' _ _ _ (by simp))) (fun u hu => by simp at hu; rcases hu with rfl | rfl | rfl <;> rfl) (by decide) (by unfold maxLen; omega) (by omega) (by simp; omega) _ rfl (fun g1 cap w4 hown4 hgr4 hor4 hlt4 => ?_)
                        have hz4 : Hid (W0.heap.size ≤ w4.heap.size) := Lib.hid (by have := hgr4.size; simp at this; omega)
                        have HM4 := Lib.hid (blk_grown (by first | exact HMW.out | exact blk_alloc (w := W0.drew) HMW.out _ | exact blk_alloc (blk_alloc (w := W0.drew) HMW.out _) _) hgr4 (HNM0.out _ (Nat.le_refl _)).1)
                        have HS4 := Lib.hid (blk_grown (by first | exact HSW.out | exact blk_alloc (w := W0.drew) HSW.out _ | exact blk_alloc (blk_alloc (w := W0.drew) HSW.out _) _) hgr4 HNS0.out.1)
                        have HR4 := Lib.hid (blk_grown (by first | exact HRW.out | exact blk_alloc (w := W0.drew) HRW.out _ | exact blk_alloc (blk_alloc (w := W0.drew) HRW.out _) _) hgr4 (HNM0.out _ (by omega)).1)
                        have OR4 := Lib.hid (World.ownsRow.kept (by first | exact World.ownsRow.alloc (w := W0.drew) OR0.out _ | exact (World.ownsRow.alloc (w := W0.drew) OR0.out _).alloc _) hgr4 HNE0.out)
                        have HG1 : Hid (some g1 ≠ (Value.slice rA rN rC).ownBlock) := Lib.hid (fun e => by
                          rcases hor4 with h4 | h4
                          · exact absurd (hne.out (h4.trans e)) (by rw [h4]; simp)
                          · have := (OR0.out.lt _ e.symm).2
                            simp at h4; omega)
                        have HB4 : Hid (∀ k, k < W0.heap.size → some k ≠ (Value.slice mA mN mC).ownBlock → w4.heap[k]? = W0.heap[k]?) := Lib.hid (fun k hk hm => (hgr4.block k (by simp; omega) hm).trans (by first | exact Below.heap_alloc W0 _ k hk | exact (Below.heap_alloc _ _ k (by simp; omega)).trans (Below.heap_alloc W0 _ k hk)))
                        have HE4 : Hid (∀ k, k < W0.heap.size → some k ≠ (Value.slice mA mN mC).ownBlock → k ≠ g1) := Lib.hid (fun k hk hm e => by
                          rcases hor4 with h4 | h4
                          · exact hm (by rw [e, h4])
                          · simp at h4; omega)
                        have HC4 : Hid (Chg (fun k => w.heap.size ≤ k) w w4) := Lib.hid (by first | exact ((HC0.out.alloc _).drew).grown hgr4 (fun k hk => .inl (by have := (OM0.out.lt k hk).1; omega)) | exact (((HC0.out.alloc _).alloc _).drew).grown hgr4 (fun k hk => .inl (by have := (OM0.out.lt k hk).1; omega)))
                        refine hK.out _ _ ⟨HM4.out, HR4.out⟩ (fun _ => ⟨⟨HM4.out, HR4.out⟩, HS4.out⟩) ?_
                        clear hK K'
                        simp only [Act.put, List.setIfInBounds_toArray, List.set_cons_zero, List.set_cons_succ]
                        refine anyG_all (rs := [15]) (by kernel_rfl) (by simp) ?_
                        intro j hj
                        simp only [List.mem_cons, List.not_mem_nil, or_false] at hj
                        subst hj
                        refine anyG_op (late := fun i => !([5, 7, 8, 12, 14, 15].contains i)) (i := 15) (o := { dst := some 68, op := .call { callee := .builtin .append, args := #[.tmp 65, .tmp 67], argTypes := #[53, 53] }, type := 53, pos := "match.go:55", after := #[{ on := 12, ground := .data }, { on := 14, ground := .data }, { on := 8, ground := .chain }], guard := none }) (by rfl) (by rfl) (fun K' hK => ?_)
                        refine wp_append_lies _ (.tmp 65) (.tmp 67) 53 (by rfl) (w.heap.size + 1) 59 j0 (.agg #[.slice none 0 0]) 1 24 Tryd.underlying53 hjnf hy0 hy1 hy2 rfl (by decide) (.slice rA rN rC) i vs (by rfl) (by first | exact OR4.out | exact OR4.out.alloc _) ⟨_, 0, none⟩ 1 1 [.slice (some ⟨pg, 0, none⟩) r.table.length pc] (by rfl) rfl (World.news_of_block (by first | exact blk_new _ _ | (refine blk_grown ?_ hgr4 (HNM0.out _ (by first | omega | (simp; omega))).1; first | exact blk_new _ _ | exact blk_alloc (blk_new _ _) _ | exact blk_new' _ _ _ (by simp)))) (fun u hu => by simp at hu; subst hu; rfl) (by decide) (by unfold maxLen; omega) (by omega) (by have := hz4.out; first | omega | (simp; omega)) _ rfl (fun g2 cap2 w5 hown5 hgr5 hor5 hlt5 => ?_)
                        have HM5 := Lib.hid (blk_grown (by first | exact HM4.out | exact blk_alloc HM4.out _) hgr5 (HNM0.out _ (Nat.le_refl _)).2)
                        have HS5 := Lib.hid (blk_grown (by first | exact HS4.out | exact blk_alloc HS4.out _) hgr5 HNS0.out.2)
                        have HR5 := Lib.hid (blk_grown (by first | exact HR4.out | exact blk_alloc HR4.out _) hgr5 (HNM0.out _ (by omega)).2)
                        have OM5 := Lib.hid (World.ownsRow.kept (by first | exact hown4 | exact hown4.alloc _) hgr5 (.inr (show (Value.slice (some ⟨g1, 0, none⟩) (i + 1) cap).ownBlock ≠ _ from HG1.out)))
                        have HG2 : Hid (g1 ≠ g2) := Lib.hid (fun e => by
                          rcases hor5 with h5 | h5
                          · exact HG1.out (by rw [e, h5])
                          · first | (simp at h5; omega) | omega)
                        have HB5 : Hid (∀ k, k < W0.heap.size → some k ≠ (Value.slice mA mN mC).ownBlock → some k ≠ (Value.slice rA rN rC).ownBlock → w5.heap[k]? = W0.heap[k]?) := Lib.hid (fun k hk hm hr => (hgr5.block k (by have := hz4.out; first | omega | (simp; omega)) hr).trans (by first | exact HB4.out k hk hm | exact (Below.heap_alloc _ _ k (by have := hz4.out; omega)).trans (HB4.out k hk hm)))
                        have HE5 : Hid (∀ k, k < W0.heap.size → some k ≠ (Value.slice rA rN rC).ownBlock → k ≠ g2) := Lib.hid (fun k hk hm e => by
                          rcases hor5 with h5 | h5
                          · exact hm (by rw [e, h5])
                          · have := hz4.out; first | omega | (simp at h5; omega))
                        have HC5 : Hid (Chg (fun k => w.heap.size ≤ k) w w5) := Lib.hid (by first | exact HC4.out.grown hgr5 (fun k hk => .inl (by have := (OR0.out.lt k hk).1; omega)) | exact (HC4.out.alloc _).grown hgr5 (fun k hk => .inl (by have := (OR0.out.lt k hk).1; omega)))
                        refine hK.out _ _ ⟨HM5.out, HR5.out⟩ (fun _ => ⟨⟨HM5.out, HR5.out⟩, HS5.out⟩) ?_
                        clear hK K'
                        simp only [Act.put, List.setIfInBounds_toArray, List.set_cons_zero, List.set_cons_succ]
                        have y0 := blk_free (o := 0) HS5.out
                        have y1 : w5.cell? ⟨w.heap.size, 0, none⟩ = some (.slice mA mN mC) := (blk_cell HS5.out).trans rfl
                        refine anyG_takeS (i := 16) (d := some 69) (v := .pointer (some ⟨w.heap.size, 0, none⟩)) rfl rfl (by kernel_rfl) (by kernel_rfl) (by kernel_rfl) rfl (fun _ _ _ h => h) ⟨HM5.out, HR5.out⟩ (.inl ⟨rfl, fun _ _ => rfl⟩) ?_
                        simp only [Act.put, List.setIfInBounds_toArray, List.set_cons_zero, List.set_cons_succ]
                        refine anyG_takeS (i := 17) (d := some 70) (v := .pointer (some ⟨w.heap.size, 0, none⟩)) rfl rfl (by kernel_rfl) (by kernel_rfl) (by kernel_rfl) rfl (fun _ _ _ h => h) ⟨HM5.out, HR5.out⟩ (.inl ⟨rfl, fun _ _ => rfl⟩) ?_
                        simp only [Act.put, List.setIfInBounds_toArray, List.set_cons_zero, List.set_cons_succ]
                        refine anyG_all (rs := [18]) (by kernel_rfl) (by simp) ?_
                        intro j hj
                        simp only [List.mem_cons, List.not_mem_nil, or_false] at hj
                        subst hj
                        refine anyG_op (late := fun i => !([5, 7, 8, 12, 14, 15].contains i)) (i := 18) (o := { dst := none, op := .store 33 (.tmp 70) (.tmp 61), type := 0, pos := "match.go:55", after := #[{ on := 17, ground := .data }, { on := 8, ground := .data }, { on := 15, ground := .chain }, { on := 0, ground := .phase }, { on := 1, ground := .textOnly .lateStores }, { on := 2, ground := .phase }, { on := 3, ground := .phase }, { on := 4, ground := .phase }, { on := 5, ground := .phase }, { on := 6, ground := .phase }, { on := 7, ground := .phase }, { on := 8, ground := .phase }, { on := 9, ground := .textOnly .lateStores }, { on := 10, ground := .textOnly .lateStoresUnsure }, { on := 11, ground := .textOnly .lateStoresUnsure }, { on := 12, ground := .phase }, { on := 13, ground := .textOnly .lateStores }, { on := 14, ground := .textOnly .lateStoresUnsure }, { on := 15, ground := .phase }], guard := none }) (by rfl) (by rfl) (fun K' hK => ?_)
                        go_simp
                        have HS6 := Lib.hid (show (w5.setCell ⟨w.heap.size, 0, none⟩ (.slice (some ⟨g1, 0, none⟩) (i + 1) cap)).heap[w.heap.size]? = some (.cells #[.slice (some ⟨g1, 0, none⟩) (i + 1) cap, .slice rA rN rC] 55 (0, 0)) from (blk_set HS5.out _).trans rfl)
                        have HM6 := Lib.hid (blk_set_far HM5.out (p := ⟨w.heap.size, 0, none⟩) (by simp; omega) (.slice (some ⟨g1, 0, none⟩) (i + 1) cap))
                        have HR6 := Lib.hid (blk_set_far HR5.out (p := ⟨w.heap.size, 0, none⟩) (by simp; omega) (.slice (some ⟨g1, 0, none⟩) (i + 1) cap))
                        refine hK.out _ _ ⟨HM6.out, HR6.out⟩ (fun e => absurd e (by decide)) ?_
                        clear hK K'
                        clear y0 y1
                        have y2 := blk_free (o := 1) HS6.out
                        have y3 : (w5.setCell ⟨w.heap.size, 0, none⟩ (.slice (some ⟨g1, 0, none⟩) (i + 1) cap)).cell? ⟨w.heap.size, 1, none⟩ = some (.slice rA rN rC) := (blk_cell HS6.out).trans rfl
                        refine anyG_takeS (i := 19) (d := some 71) (v := .pointer (some ⟨w.heap.size, 0, none⟩)) rfl rfl (by kernel_rfl) (by kernel_rfl) (by kernel_rfl) rfl (fun _ _ _ h => h) ⟨HM6.out, HR6.out⟩ (.inl ⟨rfl, fun _ _ => rfl⟩) ?_
                        simp only [Act.put, List.setIfInBounds_toArray, List.set_cons_zero, List.set_cons_succ]
                        refine anyG_takeS (i := 20) (d := some 72) (v := .pointer (some ⟨w.heap.size, 1, none⟩)) rfl rfl (by kernel_rfl) (by kernel_rfl) (by kernel_rfl) rfl (fun _ _ _ h => h) ⟨HM6.out, HR6.out⟩ (.inl ⟨rfl, fun _ _ => rfl⟩) ?_
                        simp only [Act.put, List.setIfInBounds_toArray, List.set_cons_zero, List.set_cons_succ]
                        refine anyG_all (rs := [21]) (by kernel_rfl) (by simp) ?_
                        intro j hj
                        simp only [List.mem_cons, List.not_mem_nil, or_false] at hj
                        subst hj
                        refine anyG_op (late := fun i => !([5, 7, 8, 12, 14, 15].contains i)) (i := 21) (o := { dst := none, op := .store 53 (.tmp 72) (.tmp 68), type := 0, pos := "match.go:55", after := #[{ on := 20, ground := .data }, { on := 15, ground := .data }, { on := 18, ground := .chain }, { on := 0, ground := .phase }, { on := 1, ground := .phase }, { on := 2, ground := .phase }, { on := 3, ground := .phase }, { on := 4, ground := .phase }, { on := 5, ground := .phase }, { on := 6, ground := .phase }, { on := 7, ground := .phase }, { on := 8, ground := .phase }, { on := 9, ground := .phase }, { on := 10, ground := .phase }, { on := 11, ground := .phase }, { on := 12, ground := .phase }, { on := 13, ground := .phase }, { on := 14, ground := .phase }, { on := 15, ground := .phase }, { on := 16, ground := .phase }, { on := 17, ground := .phase }, { on := 18, ground := .phase }], guard := none }) (by rfl) (by rfl) (fun K' hK => ?_)
                        go_simp
                        refine hK.out _ _ ⟨blk_set_far HM6.out (by simp; omega) _, blk_set_far HR6.out (by simp; omega) _⟩ (fun e => absurd e (by decide)) ?_
                        clear hK K'
                        refine anyG_end (by kernel_rfl) ?_
                        refine NoPanic.normal ?_
                        go_wp2
                        have HBS : Hid (∀ k, k ≠ w.heap.size → ((w5.setCell ⟨w.heap.size, 0, none⟩ (.slice (some ⟨g1, 0, none⟩) (i + 1) cap)).setCell ⟨w.heap.size, 1, none⟩ (.slice (some ⟨g2, 0, none⟩) (i + 1) cap2)).heap[k]? = w5.heap[k]?) := Lib.hid (fun k hk => (Below.heap_setCell _ _ _ _ hk).trans (Below.heap_setCell _ _ _ _ hk))
                        go_roundg (gk - 1)
                        case measure => omega
                        case rel => exact ⟨i + 1, _, _, vs ++ [.slice (some ⟨pg, 0, none⟩) r.table.length pc], by go_num, by omega, by omega, (blk_set HS6.out _).trans rfl, Lib.hid (by rw [HTK.out, flatM_snoc]; exact ownsRow_of OM5.out (fun k hk => HBS.out k (by have := (OM5.out.lt k hk).1; omega))), Lib.hid (ownsRow_of hown5 (fun k hk => HBS.out k (by have := (hown5.lt k hk).1; omega))), Lib.hid (fun e => absurd (Option.some.inj (show some g1 = some g2 from e)) HG2.out), Lib.hid (by rw [HTK.out]; exact Rdy.snoc (Rdy.frame HRD.out (fun k hk hS => ⟨((HBS.out k (by have := hS.1; omega)).trans (HB5.out k (by omega) hS.2.1 hS.2.2)).trans (HCW.out.block k hk (fun h => h)), hS.1, fun e => HE4.out k (by omega) hS.2.1 (Option.some.inj e), fun e => HE5.out k (by omega) hS.2.2 (Option.some.inj e)⟩)) ⟨_, _, _, rfl⟩ (fun _ => ⟨r, HPA.out, RegV.frame HRVV.out (fun k hk hS => ⟨((HBS.out k (by omega)).trans (HB5.out k (by rw [HZP.out]; exact hk) (HNM0.out k (by omega)).1 (HNM0.out k (by omega)).2)).trans (HWP.out k (by omega)), by omega, fun e => HE4.out k (by rw [HZP.out]; exact hk) (HNM0.out k (by omega)).1 (Option.some.inj e), fun e => HE5.out k (by rw [HZP.out]; exact hk) (HNM0.out k (by omega)).2 (Option.some.inj e)⟩)⟩)), HRE, Lib.hid (((HC5.out.setCell (.inr (Nat.le_refl _)) _).setCell (.inr (Nat.le_refl _)) _).below (fun k hk h => by omega))⟩
                    · refine anyG_op (late := fun i => !([5, 7, 8, 12, 14, 15].contains i)) (i := 14) (o := { dst := some 67, op := .buildSlice 53 1 #[(0, .tmp 66)], type := 53, pos := "match.go:55", after := #[{ on := 13, ground := .data }], guard := none }) (by rfl) (by rfl) (fun K' hK => ?_)
                      go_simp
                      refine hK.out _ _ ⟨by first | exact blk_alloc (w := W0.drew) HMW.out _ | exact blk_alloc (blk_alloc (w := W0.drew) HMW.out _) _, by first | exact blk_alloc (w := W0.drew) HRW.out _ | exact blk_alloc (blk_alloc (w := W0.drew) HRW.out _) _⟩ (fun _ => ⟨⟨by first | exact blk_alloc (w := W0.drew) HMW.out _ | exact blk_alloc (blk_alloc (w := W0.drew) HMW.out _) _, by first | exact blk_alloc (w := W0.drew) HRW.out _ | exact blk_alloc (blk_alloc (w := W0.drew) HRW.out _) _⟩, by first | exact blk_alloc (w := W0.drew) HSW.out _ | exact blk_alloc (blk_alloc (w := W0.drew) HSW.out _) _⟩) ?_
                      clear hK K'
                      refine anyG_all (rs := [7]) (by kernel_rfl) (by simp) ?_
                      intro j hj
                      simp only [List.mem_cons, List.not_mem_nil, or_false] at hj
                      subst hj
                      refine anyG_op (late := fun i => !([5, 7, 8, 12, 14, 15].contains i)) (i := 7) (o := { dst := some 60, op := .buildSlice 33 1 #[(0, .tmp 59)], type := 33, pos := "match.go:55", after := #[{ on := 6, ground := .data }], guard := none }) (by rfl) (by rfl) (fun K' hK => ?_)
                      go_simp
                      refine hK.out _ _ ⟨by first | exact blk_alloc (w := W0.drew) HMW.out _ | exact blk_alloc (blk_alloc (w := W0.drew) HMW.out _) _, by first | exact blk_alloc (w := W0.drew) HRW.out _ | exact blk_alloc (blk_alloc (w := W0.drew) HRW.out _) _⟩ (fun _ => ⟨⟨by first | exact blk_alloc (w := W0.drew) HMW.out _ | exact blk_alloc (blk_alloc (w := W0.drew) HMW.out _) _, by first | exact blk_alloc (w := W0.drew) HRW.out _ | exact blk_alloc (blk_alloc (w := W0.drew) HRW.out _) _⟩, by first | exact blk_alloc (w := W0.drew) HSW.out _ | exact blk_alloc (blk_alloc (w := W0.drew) HSW.out _) _⟩) ?_
                      clear hK K'
                      refine anyG_all (rs := [8]) (by kernel_rfl) (by simp) ?_
                      intro j hj
                      simp only [List.mem_cons, List.not_mem_nil, or_false] at hj
                      subst hj
                      refine anyG_op (late := fun i => !([5, 7, 8, 12, 14, 15].contains i)) (i := 8) (o := { dst := some 61, op := .call { callee := .builtin .append, args := #[.tmp 58, .tmp 60], argTypes := #[33, 33] }, type := 33, pos := "match.go:55", after := #[{ on := 5, ground := .data }, { on := 7, ground := .data }], guard := none }) (by rfl) (by rfl) (fun K' hK => ?_)
                      refine wp_append_lies _ (.tmp 58) (.tmp 60) 33 (by rfl) (w.heap.size + 1) 36 i0 (.agg #[.string ⟨#[]⟩, .int .i64 0, .string ⟨#[]⟩]) 3 40 Tryd.underlying33 hinf hz0 hz1 hz2 rfl (by decide) (.slice mA mN mC) i (flatM (l.take i)) (by rfl) (by first | exact World.ownsRow.alloc (w := W0.drew) OM0.out _ | exact (World.ownsRow.alloc (w := W0.drew) OM0.out _).alloc _) ⟨_, 0, none⟩ 1 1 [.string x.name, .int .i64 x.op, .string x.value] (by rfl) rfl (World.news_of_block (by first | exact blk_new _ _ | exact blk_alloc (blk_new _ _) _ | exact blk_new' _ _ _ (by simp))) (fun u hu => by simp at hu; rcases hu with rfl | rfl | rfl <;> rfl) (by decide) (by unfold maxLen; omega) (by omega) (by simp; omega) _ rfl (fun g1 cap w4 hown4 hgr4 hor4 hlt4 => ?_)
                      have hz4 : Hid (W0.heap.size ≤ w4.heap.size) := Lib.hid (by have := hgr4.size; simp at this; omega)
                      have HM4 := Lib.hid (blk_grown (by first | exact HMW.out | exact blk_alloc (w := W0.drew) HMW.out _ | exact blk_alloc (blk_alloc (w := W0.drew) HMW.out _) _) hgr4 (HNM0.out _ (Nat.le_refl _)).1)
                      have HS4 := Lib.hid (blk_grown (by first | exact HSW.out | exact blk_alloc (w := W0.drew) HSW.out _ | exact blk_alloc (blk_alloc (w := W0.drew) HSW.out _) _) hgr4 HNS0.out.1)
                      have HR4 := Lib.hid (blk_grown (by first | exact HRW.out | exact blk_alloc (w := W0.drew) HRW.out _ | exact blk_alloc (blk_alloc (w := W0.drew) HRW.out _) _) hgr4 (HNM0.out _ (by omega)).1)
                      have OR4 := Lib.hid (World.ownsRow.kept (by first | exact World.ownsRow.alloc (w := W0.drew) OR0.out _ | exact (World.ownsRow.alloc (w := W0.drew) OR0.out _).alloc _) hgr4 HNE0.out)
                      have HG1 : Hid (some g1 ≠ (Value.slice rA rN rC).ownBlock) := Lib.hid (fun e => by
                        rcases hor4 with h4 | h4
                        · exact absurd (hne.out (h4.trans e)) (by rw [h4]; simp)
                        · have := (OR0.out.lt _ e.symm).2
                          simp at h4; omega)
                      have HB4 : Hid (∀ k, k < W0.heap.size → some k ≠ (Value.slice mA mN mC).ownBlock → w4.heap[k]? = W0.heap[k]?) := Lib.hid (fun k hk hm => (hgr4.block k (by simp; omega) hm).trans (by first | exact Below.heap_alloc W0 _ k hk | exact (Below.heap_alloc _ _ k (by simp; omega)).trans (Below.heap_alloc W0 _ k hk)))
                      have HE4 : Hid (∀ k, k < W0.heap.size → some k ≠ (Value.slice mA mN mC).ownBlock → k ≠ g1) := Lib.hid (fun k hk hm e => by
                        rcases hor4 with h4 | h4
                        · exact hm (by rw [e, h4])
                        · simp at h4; omega)
                      have HC4 : Hid (Chg (fun k => w.heap.size ≤ k) w w4) := Lib.hid (by first | exact ((HC0.out.alloc _).drew).grown hgr4 (fun k hk => .inl (by have := (OM0.out.lt k hk).1; omega)) | exact (((HC0.out.alloc _).alloc _).drew).grown hgr4 (fun k hk => .inl (by have := (OM0.out.lt k hk).1; omega)))
                      refine hK.out _ _ ⟨HM4.out, HR4.out⟩ (fun _ => ⟨⟨HM4.out, HR4.out⟩, HS4.out⟩) ?_
                      clear hK K'
                      simp only [Act.put, List.setIfInBounds_toArray, List.set_cons_zero, List.set_cons_succ]
                      refine anyG_all (rs := [15]) (by kernel_rfl) (by simp) ?_
                      intro j hj
                      simp only [List.mem_cons, List.not_mem_nil, or_false] at hj
                      subst hj
                      refine anyG_op (late := fun i => !([5, 7, 8, 12, 14, 15].contains i)) (i := 15) (o := { dst := some 68, op := .call { callee := .builtin .append, args := #[.tmp 65, .tmp 67], argTypes := #[53, 53] }, type := 53, pos := "match.go:55", after := #[{ on := 12, ground := .data }, { on := 14, ground := .data }, { on := 8, ground := .chain }], guard := none }) (by rfl) (by rfl) (fun K' hK => ?_)
                      refine wp_append_lies _ (.tmp 65) (.tmp 67) 53 (by rfl) (w.heap.size + 1) 59 j0 (.agg #[.slice none 0 0]) 1 24 Tryd.underlying53 hjnf hy0 hy1 hy2 rfl (by decide) (.slice rA rN rC) i vs (by rfl) (by first | exact OR4.out | exact OR4.out.alloc _) ⟨_, 0, none⟩ 1 1 [.slice (some ⟨pg, 0, none⟩) r.table.length pc] (by rfl) rfl (World.news_of_block (by first | exact blk_new _ _ | (refine blk_grown ?_ hgr4 (HNM0.out _ (by first | omega | (simp; omega))).1; first | exact blk_new _ _ | exact blk_alloc (blk_new _ _) _ | exact blk_new' _ _ _ (by simp)))) (fun u hu => by simp at hu; subst hu; rfl) (by decide) (by unfold maxLen; omega) (by omega) (by have := hz4.out; first | omega | (simp; omega)) _ rfl (fun g2 cap2 w5 hown5 hgr5 hor5 hlt5 => ?_)
                      have HM5 := Lib.hid (blk_grown (by first | exact HM4.out | exact blk_alloc HM4.out _) hgr5 (HNM0.out _ (Nat.le_refl _)).2)
                      have HS5 := Lib.hid (blk_grown (by first | exact HS4.out | exact blk_alloc HS4.out _) hgr5 HNS0.out.2)
                      have HR5 := Lib.hid (blk_grown (by first | exact HR4.out | exact blk_alloc HR4.out _) hgr5 (HNM0.out _ (by omega)).2)
                      have OM5 := Lib.hid (World.ownsRow.kept (by first | exact hown4 | exact hown4.alloc _) hgr5 (.inr (show (Value.slice (some ⟨g1, 0, none⟩) (i + 1) cap).ownBlock ≠ _ from HG1.out)))
                      have HG2 : Hid (g1 ≠ g2) := Lib.hid (fun e => by
                        rcases hor5 with h5 | h5
                        · exact HG1.out (by rw [e, h5])
                        · first | (simp at h5; omega) | omega)
                      have HB5 : Hid (∀ k, k < W0.heap.size → some k ≠ (Value.slice mA mN mC).ownBlock → some k ≠ (Value.slice rA rN rC).ownBlock → w5.heap[k]? = W0.heap[k]?) := Lib.hid (fun k hk hm hr => (hgr5.block k (by have := hz4.out; first | omega | (simp; omega)) hr).trans (by first | exact HB4.out k hk hm | exact (Below.heap_alloc _ _ k (by have := hz4.out; omega)).trans (HB4.out k hk hm)))
                      have HE5 : Hid (∀ k, k < W0.heap.size → some k ≠ (Value.slice rA rN rC).ownBlock → k ≠ g2) := Lib.hid (fun k hk hm e => by
                        rcases hor5 with h5 | h5
                        · exact hm (by rw [e, h5])
                        · have := hz4.out; first | omega | (simp at h5; omega))
                      have HC5 : Hid (Chg (fun k => w.heap.size ≤ k) w w5) := Lib.hid (by first | exact HC4.out.grown hgr5 (fun k hk => .inl (by have := (OR0.out.lt k hk).1; omega)) | exact (HC4.out.alloc _).grown hgr5 (fun k hk => .inl (by have := (OR0.out.lt k hk).1; omega)))
                      refine hK.out _ _ ⟨HM5.out, HR5.out⟩ (fun _ => ⟨⟨HM5.out, HR5.out⟩, HS5.out⟩) ?_
                      clear hK K'
                      simp only [Act.put, List.setIfInBounds_toArray, List.set_cons_zero, List.set_cons_succ]
                      have y0 := blk_free (o := 0) HS5.out
                      have y1 : w5.cell? ⟨w.heap.size, 0, none⟩ = some (.slice mA mN mC) := (blk_cell HS5.out).trans rfl
                      refine anyG_takeS (i := 16) (d := some 69) (v := .pointer (some ⟨w.heap.size, 0, none⟩)) rfl rfl (by kernel_rfl) (by kernel_rfl) (by kernel_rfl) rfl (fun _ _ _ h => h) ⟨HM5.out, HR5.out⟩ (.inl ⟨rfl, fun _ _ => rfl⟩) ?_
                      simp only [Act.put, List.setIfInBounds_toArray, List.set_cons_zero, List.set_cons_succ]
                      refine anyG_takeS (i := 17) (d := some 70) (v := .pointer (some ⟨w.heap.size, 0, none⟩)) rfl rfl (by kernel_rfl) (by kernel_rfl) (by kernel_rfl) rfl (fun _ _ _ h => h) ⟨HM5.out, HR5.out⟩ (.inl ⟨rfl, fun _ _ => rfl⟩) ?_
                      simp only [Act.put, List.setIfInBounds_toArray, List.set_cons_zero, List.set_cons_succ]
                      refine anyG_all (rs := [18]) (by kernel_rfl) (by simp) ?_
                      intro j hj
                      simp only [List.mem_cons, List.not_mem_nil, or_false] at hj
                      subst hj
                      refine anyG_op (late := fun i => !([5, 7, 8, 12, 14, 15].contains i)) (i := 18) (o := { dst := none, op := .store 33 (.tmp 70) (.tmp 61), type := 0, pos := "match.go:55", after := #[{ on := 17, ground := .data }, { on := 8, ground := .data }, { on := 15, ground := .chain }, { on := 0, ground := .phase }, { on := 1, ground := .textOnly .lateStores }, { on := 2, ground := .phase }, { on := 3, ground := .phase }, { on := 4, ground := .phase }, { on := 5, ground := .phase }, { on := 6, ground := .phase }, { on := 7, ground := .phase }, { on := 8, ground := .phase }, { on := 9, ground := .textOnly .lateStores }, { on := 10, ground := .textOnly .lateStoresUnsure }, { on := 11, ground := .textOnly .lateStoresUnsure }, { on := 12, ground := .phase }, { on := 13, ground := .textOnly .lateStores }, { on := 14, ground := .textOnly .lateStoresUnsure }, { on := 15, ground := .phase }], guard := none }) (by rfl) (by rfl) (fun K' hK => ?_)
                      go_simp
                      have HS6 := Lib.hid (show (w5.setCell ⟨w.heap.size, 0, none⟩ (.slice (some ⟨g1, 0, none⟩) (i + 1) cap)).heap[w.heap.size]? = some (.cells #[.slice (some ⟨g1, 0, none⟩) (i + 1) cap, .slice rA rN rC] 55 (0, 0)) from (blk_set HS5.out _).trans rfl)
                      have HM6 := Lib.hid (blk_set_far HM5.out (p := ⟨w.heap.size, 0, none⟩) (by simp; omega) (.slice (some ⟨g1, 0, none⟩) (i + 1) cap))
                      have HR6 := Lib.hid (blk_set_far HR5.out (p := ⟨w.heap.size, 0, none⟩) (by simp; omega) (.slice (some ⟨g1, 0, none⟩) (i + 1) cap))
                      refine hK.out _ _ ⟨HM6.out, HR6.out⟩ (fun e => absurd e (by decide)) ?_
                      clear hK K'
                      clear y0 y1
                      have y2 := blk_free (o := 1) HS6.out
                      have y3 : (w5.setCell ⟨w.heap.size, 0, none⟩ (.slice (some ⟨g1, 0, none⟩) (i + 1) cap)).cell? ⟨w.heap.size, 1, none⟩ = some (.slice rA rN rC) := (blk_cell HS6.out).trans rfl
                      refine anyG_takeS (i := 19) (d := some 71) (v := .pointer (some ⟨w.heap.size, 0, none⟩)) rfl rfl (by kernel_rfl) (by kernel_rfl) (by kernel_rfl) rfl (fun _ _ _ h => h) ⟨HM6.out, HR6.out⟩ (.inl ⟨rfl, fun _ _ => rfl⟩) ?_
                      simp only [Act.put, List.setIfInBounds_toArray, List.set_cons_zero, List.set_cons_succ]
                      refine anyG_takeS (i := 20) (d := some 72) (v := .pointer (some ⟨w.heap.size, 1, none⟩)) rfl rfl (by kernel_rfl) (by kernel_rfl) (by kernel_rfl) rfl (fun _ _ _ h => h) ⟨HM6.out, HR6.out⟩ (.inl ⟨rfl, fun _ _ => rfl⟩) ?_
                      simp only [Act.put, List.setIfInBounds_toArray, List.set_cons_zero, List.set_cons_succ]
                      refine anyG_all (rs := [21]) (by kernel_rfl) (by simp) ?_
                      intro j hj
                      simp only [List.mem_cons, List.not_mem_nil, or_false] at hj
                      subst hj
                      refine anyG_op (late := fun i => !([5, 7, 8, 12, 14, 15].contains i)) (i := 21) (o := { dst := none, op := .store 53 (.tmp 72) (.tmp 68), type := 0, pos := "match.go:55", after := #[{ on := 20, ground := .data }, { on := 15, ground := .data }, { on := 18, ground := .chain }, { on := 0, ground := .phase }, { on := 1, ground := .phase }, { on := 2, ground := .phase }, { on := 3, ground := .phase }, { on := 4, ground := .phase }, { on := 5, ground := .phase }, { on := 6, ground := .phase }, { on := 7, ground := .phase }, { on := 8, ground := .phase }, { on := 9, ground := .phase }, { on := 10, ground := .phase }, { on := 11, ground := .phase }, { on := 12, ground := .phase }, { on := 13, ground := .phase }, { on := 14, ground := .phase }, { on := 15, ground := .phase }, { on := 16, ground := .phase }, { on := 17, ground := .phase }, { on := 18, ground := .phase }], guard := none }) (by rfl) (by rfl) (fun K' hK => ?_)
                      go_simp
                      refine hK.out _ _ ⟨blk_set_far HM6.out (by simp; omega) _, blk_set_far HR6.out (by simp; omega) _⟩ (fun e => absurd e (by decide)) ?_
                      clear hK K'
                      refine anyG_end (by kernel_rfl) ?_
                      refine NoPanic.normal ?_
                      go_wp2
                      have HBS : Hid (∀ k, k ≠ w.heap.size → ((w5.setCell ⟨w.heap.size, 0, none⟩ (.slice (some ⟨g1, 0, none⟩) (i + 1) cap)).setCell ⟨w.heap.size, 1, none⟩ (.slice (some ⟨g2, 0, none⟩) (i + 1) cap2)).heap[k]? = w5.heap[k]?) := Lib.hid (fun k hk => (Below.heap_setCell _ _ _ _ hk).trans (Below.heap_setCell _ _ _ _ hk))
                      go_roundg (gk - 1)
                      case measure => omega
                      case rel => exact ⟨i + 1, _, _, vs ++ [.slice (some ⟨pg, 0, none⟩) r.table.length pc], by go_num, by omega, by omega, (blk_set HS6.out _).trans rfl, Lib.hid (by rw [HTK.out, flatM_snoc]; exact ownsRow_of OM5.out (fun k hk => HBS.out k (by have := (OM5.out.lt k hk).1; omega))), Lib.hid (ownsRow_of hown5 (fun k hk => HBS.out k (by have := (hown5.lt k hk).1; omega))), Lib.hid (fun e => absurd (Option.some.inj (show some g1 = some g2 from e)) HG2.out), Lib.hid (by rw [HTK.out]; exact Rdy.snoc (Rdy.frame HRD.out (fun k hk hS => ⟨((HBS.out k (by have := hS.1; omega)).trans (HB5.out k (by omega) hS.2.1 hS.2.2)).trans (HCW.out.block k hk (fun h => h)), hS.1, fun e => HE4.out k (by omega) hS.2.1 (Option.some.inj e), fun e => HE5.out k (by omega) hS.2.2 (Option.some.inj e)⟩)) ⟨_, _, _, rfl⟩ (fun _ => ⟨r, HPA.out, RegV.frame HRVV.out (fun k hk hS => ⟨((HBS.out k (by omega)).trans (HB5.out k (by rw [HZP.out]; exact hk) (HNM0.out k (by omega)).1 (HNM0.out k (by omega)).2)).trans (HWP.out k (by omega)), by omega, fun e => HE4.out k (by rw [HZP.out]; exact hk) (HNM0.out k (by omega)).1 (Option.some.inj e), fun e => HE5.out k (by rw [HZP.out]; exact hk) (HNM0.out k (by omega)).2 (Option.some.inj e)⟩)⟩)), HRE, Lib.hid (((HC5.out.setCell (.inr (Nat.le_refl _)) _).setCell (.inr (Nat.le_refl _)) _).below (fun k hk h => by omega))⟩
                · have hd4 : decide ((2 : Int) ≤ x.op) = false := decide_eq_false hop
                  have HRE := Lib.hid (show matsErr ((l.drop (i + 1)).map toMat) = R by have := HR2.out; rw [matErr_plain HRO.out HNM.out H64.out hop, if_pos rfl] at this; exact this)
                  have HOP := Lib.hid hop
                  clear hop HR2
                  go_wp2_with (first | (refine wpList_load_mid rfl _ (.tmp 18) rfl g (o + i * 3) rfl _ _ HRG.out Tryd.underlying36 rfl (by kernel_rfl) ?_) | (go_at_call 22; (fail_if_success (have := hbC)); ((refine (check_one x.name _ 0 (by rw [HNM.out]; rfl) _ (blk_new' _ _ _ (by simp))).mono ?_); rintro e w3 ⟨rfl, hbC⟩; have z3 := hbC.size; have m0 : w3.cell? ⟨wo.heap.size, 0, none⟩ = some (.string x.name) := (blk_cell (blk_below hbC (blk_alloc (blk_new' _ _ _ (by simp)) _))).trans rfl; have m1 : w3.cell? ⟨wo.heap.size, 1, none⟩ = some (.int .i64 x.op) := (blk_cell (blk_below hbC (blk_alloc (blk_new' _ _ _ (by simp)) _))).trans rfl; have m2 : w3.cell? ⟨wo.heap.size, 2, none⟩ = some (.string x.value) := (blk_cell (blk_below hbC (blk_alloc (blk_new' _ _ _ (by simp)) _))).trans rfl; have s0 : w3.cell? ⟨w.heap.size, 0, none⟩ = some (.slice mA mN mC) := (blk_cell (blk_below hbC (blk_alloc (blk_alloc HBX.out _) _))).trans rfl; have s1 : w3.cell? ⟨w.heap.size, 1, none⟩ = some (.slice rA rN rC) := (blk_cell (blk_below hbC (blk_alloc (blk_alloc HBX.out _) _))).trans rfl; have HM3 := Lib.hid (blk_alloc (blk_below hbC (blk_alloc (blk_new' _ _ _ (by simp)) _)) (.cells #[.slice none 0 0] 59) : (w3.alloc (.cells #[.slice none 0 0] 59)).heap[wo.heap.size]? = some (.cells #[.string x.name, .int .i64 x.op, .string x.value] 36 (0, 0))); have HS3 := Lib.hid (blk_alloc (blk_below hbC (blk_alloc (blk_alloc HBX.out _) _)) (.cells #[.slice none 0 0] 59)); have a0 : (w3.alloc (.cells #[.slice none 0 0] 59)).cell? ⟨wo.heap.size, 0, none⟩ = some (.string x.name) := (blk_cell HM3.out).trans rfl; have a1 : (w3.alloc (.cells #[.slice none 0 0] 59)).cell? ⟨wo.heap.size, 1, none⟩ = some (.int .i64 x.op) := (blk_cell HM3.out).trans rfl; have a2 : (w3.alloc (.cells #[.slice none 0 0] 59)).cell? ⟨wo.heap.size, 2, none⟩ = some (.string x.value) := (blk_cell HM3.out).trans rfl; have e0 : (w3.alloc (.cells #[.slice none 0 0] 59)).cell? ⟨w.heap.size, 0, none⟩ = some (.slice mA mN mC) := (blk_cell HS3.out).trans rfl; have e1 : (w3.alloc (.cells #[.slice none 0 0] 59)).cell? ⟨w.heap.size, 1, none⟩ = some (.slice rA rN rC) := (blk_cell HS3.out).trans rfl)))
                  have hzC : wo.heap.size + 2 ≤ w3.heap.size := by have := hbC.size; simp at this; omega
                  obtain ⟨W0, hW0⟩ : ∃ W : World, W = w3.alloc (.cells #[.slice none 0 0] 59) := ⟨_, rfl⟩
                  have HMW : Hid (W0.heap[wo.heap.size]? = some (.cells #[.string x.name, .int .i64 x.op, .string x.value] 36 (0, 0))) := Lib.hid (by rw [hW0]; exact HM3.out)
                  have HSW : Hid (W0.heap[w.heap.size]? = some (.cells #[.slice mA mN mC, .slice rA rN rC] 55 (0, 0))) := Lib.hid (by rw [hW0]; exact HS3.out)
                  have HRW : Hid (W0.heap[w3.heap.size]? = some (.cells #[.slice none 0 0] 59 (0, 0))) := Lib.hid (by rw [hW0]; exact blk_new _ _)
                  have HCW : Hid (Chg (fun _ => False) wo W0) := Lib.hid (by rw [hW0]; (repeat (first | exact Chg.refl _ _ | with_reducible apply Chg.alloc | with_reducible refine Chg.trans ?_ (Chg.of_below hbC) | with_reducible refine Chg.trans ?_ (Chg.of_below hbP))))
                  have OM0 : Hid (W0.ownsRow (w.heap.size + 1) 36 3 (.slice mA mN mC) i (flatM (l.take i))) := Lib.hid (ownsRow_of HOM.out (fun k hk => HCW.out.block k (HOM.out.lt k hk).2 (fun h => h)))
                  have OR0 : Hid (W0.ownsRow (w.heap.size + 1) 59 1 (.slice rA rN rC) i vs) := Lib.hid (ownsRow_of HOR.out (fun k hk => HCW.out.block k (HOR.out.lt k hk).2 (fun h => h)))
                  have HC0 : Hid (Chg (fun k => w.heap.size ≤ k) w W0) := Lib.hid ((Chg.of_below (M := fun k => w.heap.size ≤ k) hbel.out).trans' HCW.out (fun _ _ h => h.elim))
                  rw [← hW0]
                  clear a0 a1 a2 e0 e1 m0 m1 m2 s0 s1 b0 b1 f0 f1 hW0
                  have n0 : W0.cell? ⟨wo.heap.size, 0, none⟩ = some (.string x.name) := (blk_cell HMW.out).trans rfl
                  have n1 : W0.cell? ⟨wo.heap.size, 1, none⟩ = some (.int .i64 x.op) := (blk_cell HMW.out).trans rfl
                  have n2 : W0.cell? ⟨wo.heap.size, 2, none⟩ = some (.string x.value) := (blk_cell HMW.out).trans rfl
                  have n3 : W0.cell? ⟨w3.heap.size, 0, none⟩ = some (.slice none 0 0) := (blk_cell HRW.out).trans rfl
                  have n4 : W0.cell? ⟨w.heap.size, 0, none⟩ = some (.slice mA mN mC) := (blk_cell HSW.out).trans rfl
                  have n5 : W0.cell? ⟨w.heap.size, 1, none⟩ = some (.slice rA rN rC) := (blk_cell HSW.out).trans rfl
                  have zW0 : wo.heap.size < W0.heap.size := blk_lt HMW.out
                  have zR0 : w3.heap.size < W0.heap.size := blk_lt HRW.out
                  have HNM0 : Hid (∀ k, wo.heap.size ≤ k → some k ≠ (Value.slice mA mN mC).ownBlock ∧ some k ≠ (Value.slice rA rN rC).ownBlock) := Lib.hid (fun k hk => ⟨fun e => by have := (HOM.out.lt _ e.symm).2; omega, fun e => by have := (HOR.out.lt _ e.symm).2; omega⟩)
                  have HNS0 : Hid (some w.heap.size ≠ (Value.slice mA mN mC).ownBlock ∧ some w.heap.size ≠ (Value.slice rA rN rC).ownBlock) := Lib.hid ⟨fun e => by have := (HOM.out.lt _ e.symm).1; omega, fun e => by have := (HOR.out.lt _ e.symm).1; omega⟩
                  have HNE0 : Hid ((Value.slice rA rN rC).ownBlock = none ∨ (Value.slice rA rN rC).ownBlock ≠ (Value.slice mA mN mC).ownBlock) := Lib.hid (own_apart hne.out)
                  refine wp_region_G (S := (fun u : World => u.heap[wo.heap.size]? = some (.cells #[.string x.name, .int .i64 x.op, .string x.value] 36 (0, 0)) ∧ u.heap[w3.heap.size]? = some (.cells #[.slice none 0 0] 59 (0, 0)))) (T := (fun u : World => (u.heap[wo.heap.size]? = some (.cells #[.string x.name, .int .i64 x.op, .string x.value] 36 (0, 0)) ∧ u.heap[w3.heap.size]? = some (.cells #[.slice none 0 0] 59 (0, 0))) ∧ u.heap[w.heap.size]? = some (.cells #[.slice mA mN mC, .slice rA rN rC] 55 (0, 0)))) (late := fun i => !([5, 7, 8, 12, 14, 15].contains i)) (by kernel_rfl) ?_
                  have hT0 := Lib.hid (show (fun u : World => (u.heap[wo.heap.size]? = some (.cells #[.string x.name, .int .i64 x.op, .string x.value] 36 (0, 0)) ∧ u.heap[w3.heap.size]? = some (.cells #[.slice none 0 0] 59 (0, 0))) ∧ u.heap[w.heap.size]? = some (.cells #[.slice mA mN mC, .slice rA rN rC] 55 (0, 0))) W0.drew from ⟨⟨HMW.out, HRW.out⟩, HSW.out⟩)
                  refine anyG_takeS (i := 0) (d := some 53) (v := .pointer (some ⟨w.heap.size, 0, none⟩)) rfl rfl (by kernel_rfl) (by kernel_rfl) (by kernel_rfl) rfl (fun _ _ _ h => h) hT0.out.1 (.inl ⟨rfl, fun _ _ => rfl⟩) ?_
                  simp only [Act.put, List.setIfInBounds_toArray, List.set_cons_zero, List.set_cons_succ]
                  refine anyG_takeS (i := 1) (d := some 54) (v := .pointer (some ⟨w.heap.size, 0, none⟩)) rfl rfl (by kernel_rfl) (by kernel_rfl) (by kernel_rfl) rfl (fun _ _ _ h => h) hT0.out.1 (.inl ⟨rfl, fun _ _ => rfl⟩) ?_
                  simp only [Act.put, List.setIfInBounds_toArray, List.set_cons_zero, List.set_cons_succ]
                  refine anyG_takeS (i := 2) (d := some 55) (v := .pointer (some ⟨w.heap.size, 0, none⟩)) rfl rfl (by kernel_rfl) (by kernel_rfl) (by kernel_rfl) rfl (fun _ _ _ h => h) hT0.out.1 (.inl ⟨rfl, fun _ _ => rfl⟩) ?_
                  simp only [Act.put, List.setIfInBounds_toArray, List.set_cons_zero, List.set_cons_succ]
                  refine anyG_takeS (i := 3) (d := some 56) (v := .pointer (some ⟨w.heap.size, 0, none⟩)) rfl rfl (by kernel_rfl) (by kernel_rfl) (by kernel_rfl) rfl (fun _ _ _ h => h) hT0.out.1 (.inl ⟨rfl, fun _ _ => rfl⟩) ?_
                  simp only [Act.put, List.setIfInBounds_toArray, List.set_cons_zero, List.set_cons_succ]
                  refine anyG_takeS (i := 4) (d := some 57) (v := .pointer (some ⟨w.heap.size, 0, none⟩)) rfl rfl (by kernel_rfl) (by kernel_rfl) (by kernel_rfl) rfl (fun _ _ _ h => h) hT0.out.1 (.inl ⟨rfl, fun _ _ => rfl⟩) ?_
                  simp only [Act.put, List.setIfInBounds_toArray, List.set_cons_zero, List.set_cons_succ]
                  refine anyG_takeS (i := 9) (d := some 62) (v := .pointer (some ⟨w.heap.size, 0, none⟩)) rfl rfl (by kernel_rfl) (by kernel_rfl) (by kernel_rfl) rfl (fun _ _ _ h => h) hT0.out.1 (.inl ⟨rfl, fun _ _ => rfl⟩) ?_
                  simp only [Act.put, List.setIfInBounds_toArray, List.set_cons_zero, List.set_cons_succ]
                  refine anyG_takeS (i := 10) (d := some 63) (v := .pointer (some ⟨w.heap.size, 0, none⟩)) rfl rfl (by kernel_rfl) (by kernel_rfl) (by kernel_rfl) rfl (fun _ _ _ h => h) hT0.out.1 (.inl ⟨rfl, fun _ _ => rfl⟩) ?_
                  simp only [Act.put, List.setIfInBounds_toArray, List.set_cons_zero, List.set_cons_succ]
                  refine anyG_takeS (i := 11) (d := some 64) (v := .pointer (some ⟨w.heap.size, 1, none⟩)) rfl rfl (by kernel_rfl) (by kernel_rfl) (by kernel_rfl) rfl (fun _ _ _ h => h) hT0.out.1 (.inl ⟨rfl, fun _ _ => rfl⟩) ?_
                  simp only [Act.put, List.setIfInBounds_toArray, List.set_cons_zero, List.set_cons_succ]
                  refine anyG_takeS (i := 6) (d := some 59) (v := .agg #[.string x.name, .int .i64 x.op, .string x.value]) rfl rfl (by kernel_rfl) (by kernel_rfl) (by kernel_rfl) rfl (fun _ _ _ h => h) hT0.out.1 (yieldsIf_load_mid rfl 36 (.tmp 6) rfl wo.heap.size 0 rfl [.string x.name, .int .i64 x.op, .string x.value] _ (fun u hu => blk_range hu.1) Tryd.underlying36 rfl (by kernel_rfl)) ?_
                  simp only [Act.put, List.setIfInBounds_toArray, List.set_cons_zero, List.set_cons_succ]
                  refine anyG_takeS (i := 13) (d := some 66) (v := .agg #[.slice none 0 0]) rfl rfl (by kernel_rfl) (by kernel_rfl) (by kernel_rfl) rfl (fun _ _ _ h => h) hT0.out.1 (yieldsIf_load_mid rfl 59 (.tmp 7) rfl w3.heap.size 0 rfl [.slice none 0 0] _ (fun u hu => blk_range hu.2) Tryd.underlying59 rfl (by kernel_rfl)) ?_
                  simp only [Act.put, List.setIfInBounds_toArray, List.set_cons_zero, List.set_cons_succ]
                  refine anyG_takeT (i := 5) (d := some 58) (v := .slice mA mN mC) rfl rfl (by kernel_rfl) (by kernel_rfl) (by kernel_rfl) (by kernel_rfl) (fun _ _ _ h => h) (fun _ h => h.1) hT0.out (.inl ⟨rfl, fun u hu => by have q := (blk_cell (o := 0) hu.2).trans rfl; go_simp⟩) ?_
                  simp only [Act.put, List.setIfInBounds_toArray, List.set_cons_zero, List.set_cons_succ]
                  refine anyG_takeT (i := 12) (d := some 65) (v := .slice rA rN rC) rfl rfl (by kernel_rfl) (by kernel_rfl) (by kernel_rfl) (by kernel_rfl) (fun _ _ _ h => h) (fun _ h => h.1) hT0.out (.inl ⟨rfl, fun u hu => by have q := (blk_cell (o := 1) hu.2).trans rfl; go_simp⟩) ?_
                  simp only [Act.put, List.setIfInBounds_toArray, List.set_cons_zero, List.set_cons_succ]
                  refine anyG_all (rs := [7, 14]) (by kernel_rfl) (by simp) ?_
                  intro j hj
                  simp only [List.mem_cons, List.not_mem_nil, or_false] at hj
                  rcases hj with rfl | rfl
                  · refine anyG_op (late := fun i => !([5, 7, 8, 12, 14, 15].contains i)) (i := 7) (o := { dst := some 60, op := .buildSlice 33 1 #[(0, .tmp 59)], type := 33, pos := "match.go:55", after := #[{ on := 6, ground := .data }], guard := none }) (by rfl) (by rfl) (fun K' hK => ?_)
                    go_simp
                    refine hK.out _ _ ⟨by first | exact blk_alloc (w := W0.drew) HMW.out _ | exact blk_alloc (blk_alloc (w := W0.drew) HMW.out _) _, by first | exact blk_alloc (w := W0.drew) HRW.out _ | exact blk_alloc (blk_alloc (w := W0.drew) HRW.out _) _⟩ (fun _ => ⟨⟨by first | exact blk_alloc (w := W0.drew) HMW.out _ | exact blk_alloc (blk_alloc (w := W0.drew) HMW.out _) _, by first | exact blk_alloc (w := W0.drew) HRW.out _ | exact blk_alloc (blk_alloc (w := W0.drew) HRW.out _) _⟩, by first | exact blk_alloc (w := W0.drew) HSW.out _ | exact blk_alloc (blk_alloc (w := W0.drew) HSW.out _) _⟩) ?_
                    clear hK K'
                    refine anyG_all (rs := [8, 14]) (by kernel_rfl) (by simp) ?_
                    intro j hj
                    simp only [List.mem_cons, List.not_mem_nil, or_false] at hj
                    rcases hj with rfl | rfl
                    · refine anyG_op (late := fun i => !([5, 7, 8, 12, 14, 15].contains i)) (i := 8) (o := { dst := some 61, op := .call { callee := .builtin .append, args := #[.tmp 58, .tmp 60], argTypes := #[33, 33] }, type := 33, pos := "match.go:55", after := #[{ on := 5, ground := .data }, { on := 7, ground := .data }], guard := none }) (by rfl) (by rfl) (fun K' hK => ?_)
                      refine wp_append_lies _ (.tmp 58) (.tmp 60) 33 (by rfl) (w.heap.size + 1) 36 i0 (.agg #[.string ⟨#[]⟩, .int .i64 0, .string ⟨#[]⟩]) 3 40 Tryd.underlying33 hinf hz0 hz1 hz2 rfl (by decide) (.slice mA mN mC) i (flatM (l.take i)) (by rfl) (by first | exact World.ownsRow.alloc (w := W0.drew) OM0.out _ | exact (World.ownsRow.alloc (w := W0.drew) OM0.out _).alloc _) ⟨_, 0, none⟩ 1 1 [.string x.name, .int .i64 x.op, .string x.value] (by rfl) rfl (World.news_of_block (by first | exact blk_new _ _ | exact blk_alloc (blk_new _ _) _ | exact blk_new' _ _ _ (by simp))) (fun u hu => by simp at hu; rcases hu with rfl | rfl | rfl <;> rfl) (by decide) (by unfold maxLen; omega) (by omega) (by simp; omega) _ rfl (fun g1 cap w4 hown4 hgr4 hor4 hlt4 => ?_)
                      have hz4 : Hid (W0.heap.size ≤ w4.heap.size) := Lib.hid (by have := hgr4.size; simp at this; omega)
                      have HM4 := Lib.hid (blk_grown (by first | exact HMW.out | exact blk_alloc (w := W0.drew) HMW.out _ | exact blk_alloc (blk_alloc (w := W0.drew) HMW.out _) _) hgr4 (HNM0.out _ (Nat.le_refl _)).1)
                      have HS4 := Lib.hid (blk_grown (by first | exact HSW.out | exact blk_alloc (w := W0.drew) HSW.out _ | exact blk_alloc (blk_alloc (w := W0.drew) HSW.out _) _) hgr4 HNS0.out.1)
                      have HR4 := Lib.hid (blk_grown (by first | exact HRW.out | exact blk_alloc (w := W0.drew) HRW.out _ | exact blk_alloc (blk_alloc (w := W0.drew) HRW.out _) _) hgr4 (HNM0.out _ (by omega)).1)
                      have OR4 := Lib.hid (World.ownsRow.kept (by first | exact World.ownsRow.alloc (w := W0.drew) OR0.out _ | exact (World.ownsRow.alloc (w := W0.drew) OR0.out _).alloc _) hgr4 HNE0.out)
                      have HG1 : Hid (some g1 ≠ (Value.slice rA rN rC).ownBlock) := Lib.hid (fun e => by
                        rcases hor4 with h4 | h4
                        · exact absurd (hne.out (h4.trans e)) (by rw [h4]; simp)
                        · have := (OR0.out.lt _ e.symm).2
                          simp at h4; omega)
                      have HB4 : Hid (∀ k, k < W0.heap.size → some k ≠ (Value.slice mA mN mC).ownBlock → w4.heap[k]? = W0.heap[k]?) := Lib.hid (fun k hk hm => (hgr4.block k (by simp; omega) hm).trans (by first | exact Below.heap_alloc W0 _ k hk | exact (Below.heap_alloc _ _ k (by simp; omega)).trans (Below.heap_alloc W0 _ k hk)))
                      have HE4 : Hid (∀ k, k < W0.heap.size → some k ≠ (Value.slice mA mN mC).ownBlock → k ≠ g1) := Lib.hid (fun k hk hm e => by
                        rcases hor4 with h4 | h4
                        · exact hm (by rw [e, h4])
                        · simp at h4; omega)
                      have HC4 : Hid (Chg (fun k => w.heap.size ≤ k) w w4) := Lib.hid (by first | exact ((HC0.out.alloc _).drew).grown hgr4 (fun k hk => .inl (by have := (OM0.out.lt k hk).1; omega)) | exact (((HC0.out.alloc _).alloc _).drew).grown hgr4 (fun k hk => .inl (by have := (OM0.out.lt k hk).1; omega)))
                      refine hK.out _ _ ⟨HM4.out, HR4.out⟩ (fun _ => ⟨⟨HM4.out, HR4.out⟩, HS4.out⟩) ?_
                      clear hK K'
                      simp only [Act.put, List.setIfInBounds_toArray, List.set_cons_zero, List.set_cons_succ]
                      refine anyG_all (rs := [14]) (by kernel_rfl) (by simp) ?_
                      intro j hj
                      simp only [List.mem_cons, List.not_mem_nil, or_false] at hj
                      subst hj
                      refine anyG_op (late := fun i => !([5, 7, 8, 12, 14, 15].contains i)) (i := 14) (o := { dst := some 67, op := .buildSlice 53 1 #[(0, .tmp 66)], type := 53, pos := "match.go:55", after := #[{ on := 13, ground := .data }], guard := none }) (by rfl) (by rfl) (fun K' hK => ?_)
                      go_simp
                      refine hK.out _ _ ⟨by first | exact HM4.out | exact blk_alloc HM4.out _, by first | exact HR4.out | exact blk_alloc HR4.out _⟩ (fun _ => ⟨⟨by first | exact HM4.out | exact blk_alloc HM4.out _, by first | exact HR4.out | exact blk_alloc HR4.out _⟩, by first | exact HS4.out | exact blk_alloc HS4.out _⟩) ?_
                      clear hK K'
                      refine anyG_all (rs := [15]) (by kernel_rfl) (by simp) ?_
                      intro j hj
                      simp only [List.mem_cons, List.not_mem_nil, or_false] at hj
                      subst hj
                      refine anyG_op (late := fun i => !([5, 7, 8, 12, 14, 15].contains i)) (i := 15) (o := { dst := some 68, op := .call { callee := .builtin .append, args := #[.tmp 65, .tmp 67], argTypes := #[53, 53] }, type := 53, pos := "match.go:55", after := #[{ on := 12, ground := .data }, { on := 14, ground := .data }, { on := 8, ground := .chain }], guard := none }) (by rfl) (by rfl) (fun K' hK => ?_)
                      refine wp_append_lies _ (.tmp 65) (.tmp 67) 53 (by rfl) (w.heap.size + 1) 59 j0 (.agg #[.slice none 0 0]) 1 24 Tryd.underlying53 hjnf hy0 hy1 hy2 rfl (by decide) (.slice rA rN rC) i vs (by rfl) (by first | exact OR4.out | exact OR4.out.alloc _) ⟨_, 0, none⟩ 1 1 [.slice none 0 0] (by rfl) rfl (World.news_of_block (by first | exact blk_new _ _ | (refine blk_grown ?_ hgr4 (HNM0.out _ (by first | omega | (simp; omega))).1; first | exact blk_new _ _ | exact blk_alloc (blk_new _ _) _ | exact blk_new' _ _ _ (by simp)))) (fun u hu => by simp at hu; subst hu; rfl) (by decide) (by unfold maxLen; omega) (by omega) (by have := hz4.out; first | omega | (simp; omega)) _ rfl (fun g2 cap2 w5 hown5 hgr5 hor5 hlt5 => ?_)
                      have HM5 := Lib.hid (blk_grown (by first | exact HM4.out | exact blk_alloc HM4.out _) hgr5 (HNM0.out _ (Nat.le_refl _)).2)
                      have HS5 := Lib.hid (blk_grown (by first | exact HS4.out | exact blk_alloc HS4.out _) hgr5 HNS0.out.2)
                      have HR5 := Lib.hid (blk_grown (by first | exact HR4.out | exact blk_alloc HR4.out _) hgr5 (HNM0.out _ (by omega)).2)
                      have OM5 := Lib.hid (World.ownsRow.kept (by first | exact hown4 | exact hown4.alloc _) hgr5 (.inr (show (Value.slice (some ⟨g1, 0, none⟩) (i + 1) cap).ownBlock ≠ _ from HG1.out)))
                      have HG2 : Hid (g1 ≠ g2) := Lib.hid (fun e => by
                        rcases hor5 with h5 | h5
                        · exact HG1.out (by rw [e, h5])
                        · first | (simp at h5; omega) | omega)
                      have HB5 : Hid (∀ k, k < W0.heap.size → some k ≠ (Value.slice mA mN mC).ownBlock → some k ≠ (Value.slice rA rN rC).ownBlock → w5.heap[k]? = W0.heap[k]?) := Lib.hid (fun k hk hm hr => (hgr5.block k (by have := hz4.out; first | omega | (simp; omega)) hr).trans (by first | exact HB4.out k hk hm | exact (Below.heap_alloc _ _ k (by have := hz4.out; omega)).trans (HB4.out k hk hm)))
                      have HE5 : Hid (∀ k, k < W0.heap.size → some k ≠ (Value.slice rA rN rC).ownBlock → k ≠ g2) := Lib.hid (fun k hk hm e => by
                        rcases hor5 with h5 | h5
                        · exact hm (by rw [e, h5])
                        · have := hz4.out; first | omega | (simp at h5; omega))
                      have HC5 : Hid (Chg (fun k => w.heap.size ≤ k) w w5) := Lib.hid (by first | exact HC4.out.grown hgr5 (fun k hk => .inl (by have := (OR0.out.lt k hk).1; omega)) | exact (HC4.out.alloc _).grown hgr5 (fun k hk => .inl (by have := (OR0.out.lt k hk).1; omega)))
                      refine hK.out _ _ ⟨HM5.out, HR5.out⟩ (fun _ => ⟨⟨HM5.out, HR5.out⟩, HS5.out⟩) ?_
                      clear hK K'
                      simp only [Act.put, List.setIfInBounds_toArray, List.set_cons_zero, List.set_cons_succ]
                      have y0 := blk_free (o := 0) HS5.out
                      have y1 : w5.cell? ⟨w.heap.size, 0, none⟩ = some (.slice mA mN mC) := (blk_cell HS5.out).trans rfl
                      refine anyG_takeS (i := 16) (d := some 69) (v := .pointer (some ⟨w.heap.size, 0, none⟩)) rfl rfl (by kernel_rfl) (by kernel_rfl) (by kernel_rfl) rfl (fun _ _ _ h => h) ⟨HM5.out, HR5.out⟩ (.inl ⟨rfl, fun _ _ => rfl⟩) ?_
                      simp only [Act.put, List.setIfInBounds_toArray, List.set_cons_zero, List.set_cons_succ]
                      refine anyG_takeS (i := 17) (d := some 70) (v := .pointer (some ⟨w.heap.size, 0, none⟩)) rfl rfl (by kernel_rfl) (by kernel_rfl) (by kernel_rfl) rfl (fun _ _ _ h => h) ⟨HM5.out, HR5.out⟩ (.inl ⟨rfl, fun _ _ => rfl⟩) ?_
                      simp only [Act.put, List.setIfInBounds_toArray, List.set_cons_zero, List.set_cons_succ]
                      refine anyG_all (rs := [18]) (by kernel_rfl) (by simp) ?_
                      intro j hj
                      simp only [List.mem_cons, List.not_mem_nil, or_false] at hj
                      subst hj
                      refine anyG_op (late := fun i => !([5, 7, 8, 12, 14, 15].contains i)) (i := 18) (o := { dst := none, op := .store 33 (.tmp 70) (.tmp 61), type := 0, pos := "match.go:55", after := #[{ on := 17, ground := .data }, { on := 8, ground := .data }, { on := 15, ground := .chain }, { on := 0, ground := .phase }, { on := 1, ground := .textOnly .lateStores }, { on := 2, ground := .phase }, { on := 3, ground := .phase }, { on := 4, ground := .phase }, { on := 5, ground := .phase }, { on := 6, ground := .phase }, { on := 7, ground := .phase }, { on := 8, ground := .phase }, { on := 9, ground := .textOnly .lateStores }, { on := 10, ground := .textOnly .lateStoresUnsure }, { on := 11, ground := .textOnly .lateStoresUnsure }, { on := 12, ground := .phase }, { on := 13, ground := .textOnly .lateStores }, { on := 14, ground := .textOnly .lateStoresUnsure }, { on := 15, ground := .phase }], guard := none }) (by rfl) (by rfl) (fun K' hK => ?_)
                      go_simp
                      have HS6 := Lib.hid (show (w5.setCell ⟨w.heap.size, 0, none⟩ (.slice (some ⟨g1, 0, none⟩) (i + 1) cap)).heap[w.heap.size]? = some (.cells #[.slice (some ⟨g1, 0, none⟩) (i + 1) cap, .slice rA rN rC] 55 (0, 0)) from (blk_set HS5.out _).trans rfl)
                      have HM6 := Lib.hid (blk_set_far HM5.out (p := ⟨w.heap.size, 0, none⟩) (by simp; omega) (.slice (some ⟨g1, 0, none⟩) (i + 1) cap))
                      have HR6 := Lib.hid (blk_set_far HR5.out (p := ⟨w.heap.size, 0, none⟩) (by simp; omega) (.slice (some ⟨g1, 0, none⟩) (i + 1) cap))
                      refine hK.out _ _ ⟨HM6.out, HR6.out⟩ (fun e => absurd e (by decide)) ?_
                      clear hK K'
                      clear y0 y1
                      have y2 := blk_free (o := 1) HS6.out
                      have y3 : (w5.setCell ⟨w.heap.size, 0, none⟩ (.slice (some ⟨g1, 0, none⟩) (i + 1) cap)).cell? ⟨w.heap.size, 1, none⟩ = some (.slice rA rN rC) := (blk_cell HS6.out).trans rfl
                      refine anyG_takeS (i := 19) (d := some 71) (v := .pointer (some ⟨w.heap.size, 0, none⟩)) rfl rfl (by kernel_rfl) (by kernel_rfl) (by kernel_rfl) rfl (fun _ _ _ h => h) ⟨HM6.out, HR6.out⟩ (.inl ⟨rfl, fun _ _ => rfl⟩) ?_
                      simp only [Act.put, List.setIfInBounds_toArray, List.set_cons_zero, List.set_cons_succ]
                      refine anyG_takeS (i := 20) (d := some 72) (v := .pointer (some ⟨w.heap.size, 1, none⟩)) rfl rfl (by kernel_rfl) (by kernel_rfl) (by kernel_rfl) rfl (fun _ _ _ h => h) ⟨HM6.out, HR6.out⟩ (.inl ⟨rfl, fun _ _ => rfl⟩) ?_
                      simp only [Act.put, List.setIfInBounds_toArray, List.set_cons_zero, List.set_cons_succ]
                      refine anyG_all (rs := [21]) (by kernel_rfl) (by simp) ?_
                      intro j hj
                      simp only [List.mem_cons, List.not_mem_nil, or_false] at hj
                      subst hj
                      refine anyG_op (late := fun i => !([5, 7, 8, 12, 14, 15].contains i)) (i := 21) (o := { dst := none, op := .store 53 (.tmp 72) (.tmp 68), type := 0, pos := "match.go:55", after := #[{ on := 20, ground := .data }, { on := 15, ground := .data }, { on := 18, ground := .chain }, { on := 0, ground := .phase }, { on := 1, ground := .phase }, { on := 2, ground := .phase }, { on := 3, ground := .phase }, { on := 4, ground := .phase }, { on := 5, ground := .phase }, { on := 6, ground := .phase }, { on := 7, ground := .phase }, { on := 8, ground := .phase }, { on := 9, ground := .phase }, { on := 10, ground := .phase }, { on := 11, ground := .phase }, { on := 12, ground := .phase }, { on := 13, ground := .phase }, { on := 14, ground := .phase }, { on := 15, ground := .phase }, { on := 16, ground := .phase }, { on := 17, ground := .phase }, { on := 18, ground := .phase }], guard := none }) (by rfl) (by rfl) (fun K' hK => ?_)
                      go_simp
                      refine hK.out _ _ ⟨blk_set_far HM6.out (by simp; omega) _, blk_set_far HR6.out (by simp; omega) _⟩ (fun e => absurd e (by decide)) ?_
                      clear hK K'
                      refine anyG_end (by kernel_rfl) ?_
                      refine NoPanic.normal ?_
                      go_wp2
                      have HBS : Hid (∀ k, k ≠ w.heap.size → ((w5.setCell ⟨w.heap.size, 0, none⟩ (.slice (some ⟨g1, 0, none⟩) (i + 1) cap)).setCell ⟨w.heap.size, 1, none⟩ (.slice (some ⟨g2, 0, none⟩) (i + 1) cap2)).heap[k]? = w5.heap[k]?) := Lib.hid (fun k hk => (Below.heap_setCell _ _ _ _ hk).trans (Below.heap_setCell _ _ _ _ hk))
                      go_roundg (gk - 1)
                      case measure => omega
                      case rel => exact ⟨i + 1, _, _, vs ++ [.slice none 0 0], by go_num, by omega, by omega, (blk_set HS6.out _).trans rfl, Lib.hid (by rw [HTK.out, flatM_snoc]; exact ownsRow_of OM5.out (fun k hk => HBS.out k (by have := (OM5.out.lt k hk).1; omega))), Lib.hid (ownsRow_of hown5 (fun k hk => HBS.out k (by have := (hown5.lt k hk).1; omega))), Lib.hid (fun e => absurd (Option.some.inj (show some g1 = some g2 from e)) HG2.out), Lib.hid (by rw [HTK.out]; exact Rdy.snoc (Rdy.frame HRD.out (fun k hk hS => ⟨((HBS.out k (by have := hS.1; omega)).trans (HB5.out k (by omega) hS.2.1 hS.2.2)).trans (HCW.out.block k hk (fun h => h)), hS.1, fun e => HE4.out k (by omega) hS.2.1 (Option.some.inj e), fun e => HE5.out k (by omega) hS.2.2 (Option.some.inj e)⟩)) ⟨_, _, _, rfl⟩ (fun h => by have := HOP.out; omega)), HRE, Lib.hid (((HC5.out.setCell (.inr (Nat.le_refl _)) _).setCell (.inr (Nat.le_refl _)) _).below (fun k hk h => by omega))⟩
                    · refine anyG_op (late := fun i => !([5, 7, 8, 12, 14, 15].contains i)) (i := 14) (o := { dst := some 67, op := .buildSlice 53 1 #[(0, .tmp 66)], type := 53, pos := "match.go:55", after := #[{ on := 13, ground := .data }], guard := none }) (by rfl) (by rfl) (fun K' hK => ?_)
                      go_simp
                      refine hK.out _ _ ⟨by first | exact blk_alloc (w := W0.drew) HMW.out _ | exact blk_alloc (blk_alloc (w := W0.drew) HMW.out _) _, by first | exact blk_alloc (w := W0.drew) HRW.out _ | exact blk_alloc (blk_alloc (w := W0.drew) HRW.out _) _⟩ (fun _ => ⟨⟨by first | exact blk_alloc (w := W0.drew) HMW.out _ | exact blk_alloc (blk_alloc (w := W0.drew) HMW.out _) _, by first | exact blk_alloc (w := W0.drew) HRW.out _ | exact blk_alloc (blk_alloc (w := W0.drew) HRW.out _) _⟩, by first | exact blk_alloc (w := W0.drew) HSW.out _ | exact blk_alloc (blk_alloc (w := W0.drew) HSW.out _) _⟩) ?_
                      clear hK K'
                      refine anyG_all (rs := [8]) (by kernel_rfl) (by simp) ?_
                      intro j hj
                      simp only [List.mem_cons, List.not_mem_nil, or_false] at hj
                      subst hj
                      refine anyG_op (late := fun i => !([5, 7, 8, 12, 14, 15].contains i)) (i := 8) (o := { dst := some 61, op := .call { callee := .builtin .append, args := #[.tmp 58, .tmp 60], argTypes := #[33, 33] }, type := 33, pos := "match.go:55", after := #[{ on := 5, ground := .data }, { on := 7, ground := .data }], guard := none }) (by rfl) (by rfl) (fun K' hK => ?_)
                      refine wp_append_lies _ (.tmp 58) (.tmp 60) 33 (by rfl) (w.heap.size + 1) 36 i0 (.agg #[.string ⟨#[]⟩, .int .i64 0, .string ⟨#[]⟩]) 3 40 Tryd.underlying33 hinf hz0 hz1 hz2 rfl (by decide) (.slice mA mN mC) i (flatM (l.take i)) (by rfl) (by first | exact World.ownsRow.alloc (w := W0.drew) OM0.out _ | exact (World.ownsRow.alloc (w := W0.drew) OM0.out _).alloc _) ⟨_, 0, none⟩ 1 1 [.string x.name, .int .i64 x.op, .string x.value] (by rfl) rfl (World.news_of_block (by first | exact blk_new _ _ | exact blk_alloc (blk_new _ _) _ | exact blk_new' _ _ _ (by simp))) (fun u hu => by simp at hu; rcases hu with rfl | rfl | rfl <;> rfl) (by decide) (by unfold maxLen; omega) (by omega) (by simp; omega) _ rfl (fun g1 cap w4 hown4 hgr4 hor4 hlt4 => ?_)
                      have hz4 : Hid (W0.heap.size ≤ w4.heap.size) := Lib.hid (by have := hgr4.size; simp at this; omega)
                      have HM4 := Lib.hid (blk_grown (by first | exact HMW.out | exact blk_alloc (w := W0.drew) HMW.out _ | exact blk_alloc (blk_alloc (w := W0.drew) HMW.out _) _) hgr4 (HNM0.out _ (Nat.le_refl _)).1)
                      have HS4 := Lib.hid (blk_grown (by first | exact HSW.out | exact blk_alloc (w := W0.drew) HSW.out _ | exact blk_alloc (blk_alloc (w := W0.drew) HSW.out _) _) hgr4 HNS0.out.1)
                      have HR4 := Lib.hid (blk_grown (by first | exact HRW.out | exact blk_alloc (w := W0.drew) HRW.out _ | exact blk_alloc (blk_alloc (w := W0.drew) HRW.out _) _) hgr4 (HNM0.out _ (by omega)).1)
                      have OR4 := Lib.hid (World.ownsRow.kept (by first | exact World.ownsRow.alloc (w := W0.drew) OR0.out _ | exact (World.ownsRow.alloc (w := W0.drew) OR0.out _).alloc _) hgr4 HNE0.out)
                      have HG1 : Hid (some g1 ≠ (Value.slice rA rN rC).ownBlock) := Lib.hid (fun e => by
                        rcases hor4 with h4 | h4
                        · exact absurd (hne.out (h4.trans e)) (by rw [h4]; simp)
                        · have := (OR0.out.lt _ e.symm).2
                          simp at h4; omega)
                      have HB4 : Hid (∀ k, k < W0.heap.size → some k ≠ (Value.slice mA mN mC).ownBlock → w4.heap[k]? = W0.heap[k]?) := Lib.hid (fun k hk hm => (hgr4.block k (by simp; omega) hm).trans (by first | exact Below.heap_alloc W0 _ k hk | exact (Below.heap_alloc _ _ k (by simp; omega)).trans (Below.heap_alloc W0 _ k hk)))
                      have HE4 : Hid (∀ k, k < W0.heap.size → some k ≠ (Value.slice mA mN mC).ownBlock → k ≠ g1) := Lib.hid (fun k hk hm e => by
                        rcases hor4 with h4 | h4
                        · exact hm (by rw [e, h4])
                        · simp at h4; omega)
                      have HC4 : Hid (Chg (fun k => w.heap.size ≤ k) w w4) := Lib.hid (by first | exact ((HC0.out.alloc _).drew).grown hgr4 (fun k hk => .inl (by have := (OM0.out.lt k hk).1; omega)) | exact (((HC0.out.alloc _).alloc _).drew).grown hgr4 (fun k hk => .inl (by have := (OM0.out.lt k hk).1; omega)))
                      refine hK.out _ _ ⟨HM4.out, HR4.out⟩ (fun _ => ⟨⟨HM4.out, HR4.out⟩, HS4.out⟩) ?_
                      clear hK K'
                      simp only [Act.put, List.setIfInBounds_toArray, List.set_cons_zero, List.set_cons_succ]
                      refine anyG_all (rs := [15]) (by kernel_rfl) (by simp) ?_
                      intro j hj
                      simp only [List.mem_cons, List.not_mem_nil, or_false] at hj
                      subst hj
                      refine anyG_op (late := fun i => !([5, 7, 8, 12, 14, 15].contains i)) (i := 15) (o := { dst := some 68, op := .call { callee := .builtin .append, args := #[.tmp 65, .tmp 67], argTypes := #[53, 53] }, type := 53, pos := "match.go:55", after := #[{ on := 12, ground := .data }, { on := 14, ground := .data }, { on := 8, ground := .chain }], guard := none }) (by rfl) (by rfl) (fun K' hK => ?_)
                      refine wp_append_lies _ (.tmp 65) (.tmp 67) 53 (by rfl) (w.heap.size + 1) 59 j0 (.agg #[.slice none 0 0]) 1 24 Tryd.underlying53 hjnf hy0 hy1 hy2 rfl (by decide) (.slice rA rN rC) i vs (by rfl) (by first | exact OR4.out | exact OR4.out.alloc _) ⟨_, 0, none⟩ 1 1 [.slice none 0 0] (by rfl) rfl (World.news_of_block (by first | exact blk_new _ _ | (refine blk_grown ?_ hgr4 (HNM0.out _ (by first | omega | (simp; omega))).1; first | exact blk_new _ _ | exact blk_alloc (blk_new _ _) _ | exact blk_new' _ _ _ (by simp)))) (fun u hu => by simp at hu; subst hu; rfl) (by decide) (by unfold maxLen; omega) (by omega) (by have := hz4.out; first | omega | (simp; omega)) _ rfl (fun g2 cap2 w5 hown5 hgr5 hor5 hlt5 => ?_)
                      have HM5 := Lib.hid (blk_grown (by first | exact HM4.out | exact blk_alloc HM4.out _) hgr5 (HNM0.out _ (Nat.le_refl _)).2)
                      have HS5 := Lib.hid (blk_grown (by first | exact HS4.out | exact blk_alloc HS4.out _) hgr5 HNS0.out.2)
                      have HR5 := Lib.hid (blk_grown (by first | exact HR4.out | exact blk_alloc HR4.out _) hgr5 (HNM0.out _ (by omega)).2)
                      have OM5 := Lib.hid (World.ownsRow.kept (by first | exact hown4 | exact hown4.alloc _) hgr5 (.inr (show (Value.slice (some ⟨g1, 0, none⟩) (i + 1) cap).ownBlock ≠ _ from HG1.out)))
                      have HG2 : Hid (g1 ≠ g2) := Lib.hid (fun e => by
                        rcases hor5 with h5 | h5
                        · exact HG1.out (by rw [e, h5])
                        · first | (simp at h5; omega) | omega)
                      have HB5 : Hid (∀ k, k < W0.heap.size → some k ≠ (Value.slice mA mN mC).ownBlock → some k ≠ (Value.slice rA rN rC).ownBlock → w5.heap[k]? = W0.heap[k]?) := Lib.hid (fun k hk hm hr => (hgr5.block k (by have := hz4.out; first | omega | (simp; omega)) hr).trans (by first | exact HB4.out k hk hm | exact (Below.heap_alloc _ _ k (by have := hz4.out; omega)).trans (HB4.out k hk hm)))
                      have HE5 : Hid (∀ k, k < W0.heap.size → some k ≠ (Value.slice rA rN rC).ownBlock → k ≠ g2) := Lib.hid (fun k hk hm e => by
                        rcases hor5 with h5 | h5
                        · exact hm (by rw [e, h5])
                        · have := hz4.out; first | omega | (simp at h5; omega))
                      have HC5 : Hid (Chg (fun k => w.heap.size ≤ k) w w5) := Lib.hid (by first | exact HC4.out.grown hgr5 (fun k hk => .inl (by have := (OR0.out.lt k hk).1; omega)) | exact (HC4.out.alloc _).grown hgr5 (fun k hk => .inl (by have := (OR0.out.lt k hk).1; omega)))
                      refine hK.out _ _ ⟨HM5.out, HR5.out⟩ (fun _ => ⟨⟨HM5.out, HR5.out⟩, HS5.out⟩) ?_
                      clear hK K'
                      simp only [Act.put, List.setIfInBounds_toArray, List.set_cons_zero, List.set_cons_succ]
                      have y0 := blk_free (o := 0) HS5.out
                      have y1 : w5.cell? ⟨w.heap.size, 0, none⟩ = some (.slice mA mN mC) := (blk_cell HS5.out).trans rfl
                      refine anyG_takeS (i := 16) (d := some 69) (v := .pointer (some ⟨w.heap.size, 0, none⟩)) rfl rfl (by kernel_rfl) (by kernel_rfl) (by kernel_rfl) rfl (fun _ _ _ h => h) ⟨HM5.out, HR5.out⟩ (.inl ⟨rfl, fun _ _ => rfl⟩) ?_
                      simp only [Act.put, List.setIfInBounds_toArray, List.set_cons_zero, List.set_cons_succ]
                      refine anyG_takeS (i := 17) (d := some 70) (v := .pointer (some ⟨w.heap.size, 0, none⟩)) rfl rfl (by kernel_rfl) (by kernel_rfl) (by kernel_rfl) rfl (fun _ _ _ h => h) ⟨HM5.out, HR5.out⟩ (.inl ⟨rfl, fun _ _ => rfl⟩) ?_
                      simp only [Act.put, List.setIfInBounds_toArray, List.set_cons_zero, List.set_cons_succ]
                      refine anyG_all (rs := [18]) (by kernel_rfl) (by simp) ?_
                      intro j hj
                      simp only [List.mem_cons, List.not_mem_nil, or_false] at hj
                      subst hj
                      refine anyG_op (late := fun i => !([5, 7, 8, 12, 14, 15].contains i)) (i := 18) (o := { dst := none, op := .store 33 (.tmp 70) (.tmp 61), type := 0, pos := "match.go:55", after := #[{ on := 17, ground := .data }, { on := 8, ground := .data }, { on := 15, ground := .chain }, { on := 0, ground := .phase }, { on := 1, ground := .textOnly .lateStores }, { on := 2, ground := .phase }, { on := 3, ground := .phase }, { on := 4, ground := .phase }, { on := 5, ground := .phase }, { on := 6, ground := .phase }, { on := 7, ground := .phase }, { on := 8, ground := .phase }, { on := 9, ground := .textOnly .lateStores }, { on := 10, ground := .textOnly .lateStoresUnsure }, { on := 11, ground := .textOnly .lateStoresUnsure }, { on := 12, ground := .phase }, { on := 13, ground := .textOnly .lateStores }, { on := 14, ground := .textOnly .lateStoresUnsure }, { on := 15, ground := .phase }], guard := none }) (by rfl) (by rfl) (fun K' hK => ?_)
                      go_simp
                      have HS6 := Lib.hid (show (w5.setCell ⟨w.heap.size, 0, none⟩ (.slice (some ⟨g1, 0, none⟩) (i + 1) cap)).heap[w.heap.size]? = some (.cells #[.slice (some ⟨g1, 0, none⟩) (i + 1) cap, .slice rA rN rC] 55 (0, 0)) from (blk_set HS5.out _).trans rfl)
                      have HM6 := Lib.hid (blk_set_far HM5.out (p := ⟨w.heap.size, 0, none⟩) (by simp; omega) (.slice (some ⟨g1, 0, none⟩) (i + 1) cap))
                      have HR6 := Lib.hid (blk_set_far HR5.out (p := ⟨w.heap.size, 0, none⟩) (by simp; omega) (.slice (some ⟨g1, 0, none⟩) (i + 1) cap))
                      refine hK.out _ _ ⟨HM6.out, HR6.out⟩ (fun e => absurd e (by decide)) ?_
                      clear hK K'
                      clear y0 y1
                      have y2 := blk_free (o := 1) HS6.out
                      have y3 : (w5.setCell ⟨w.heap.size, 0, none⟩ (.slice (some ⟨g1, 0, none⟩) (i + 1) cap)).cell? ⟨w.heap.size, 1, none⟩ = some (.slice rA rN rC) := (blk_cell HS6.out).trans rfl
                      refine anyG_takeS (i := 19) (d := some 71) (v := .pointer (some ⟨w.heap.size, 0, none⟩)) rfl rfl (by kernel_rfl) (by kernel_rfl) (by kernel_rfl) rfl (fun _ _ _ h => h) ⟨HM6.out, HR6.out⟩ (.inl ⟨rfl, fun _ _ => rfl⟩) ?_
                      simp only [Act.put, List.setIfInBounds_toArray, List.set_cons_zero, List.set_cons_succ]
                      refine anyG_takeS (i := 20) (d := some 72) (v := .pointer (some ⟨w.heap.size, 1, none⟩)) rfl rfl (by kernel_rfl) (by kernel_rfl) (by kernel_rfl) rfl (fun _ _ _ h => h) ⟨HM6.out, HR6.out⟩ (.inl ⟨rfl, fun _ _ => rfl⟩) ?_
                      simp only [Act.put, List.setIfInBounds_toArray, List.set_cons_zero, List.set_cons_succ]
                      refine anyG_all (rs := [21]) (by kernel_rfl) (by simp) ?_
                      intro j hj
                      simp only [List.mem_cons, List.not_mem_nil, or_false] at hj
                      subst hj
                      refine anyG_op (late := fun i => !([5, 7, 8, 12, 14, 15].contains i)) (i := 21) (o := { dst := none, op := .store 53 (.tmp 72) (.tmp 68), type := 0, pos := "match.go:55", after := #[{ on := 20, ground := .data }, { on := 15, ground := .data }, { on := 18, ground := .chain }, { on := 0, ground := .phase }, { on := 1, ground := .phase }, { on := 2, ground := .phase }, { on := 3, ground := .phase }, { on := 4, ground := .phase }, { on := 5, ground := .phase }, { on := 6, ground := .phase }, { on := 7, ground := .phase }, { on := 8, ground := .phase }, { on := 9, ground := .phase }, { on := 10, ground := .phase }, { on := 11, ground := .phase }, { on := 12, ground := .phase }, { on := 13, ground := .phase }, { on := 14, ground := .phase }, { on := 15, ground := .phase }, { on := 16, ground := .phase }, { on := 17, ground := .phase }, { on := 18, ground := .phase }], guard := none }) (by rfl) (by rfl) (fun K' hK => ?_)
                      go_simp
                      refine hK.out _ _ ⟨blk_set_far HM6.out (by simp; omega) _, blk_set_far HR6.out (by simp; omega) _⟩ (fun e => absurd e (by decide)) ?_
                      clear hK K'
                      refine anyG_end (by kernel_rfl) ?_
                      refine NoPanic.normal ?_
                      go_wp2
                      have HBS : Hid (∀ k, k ≠ w.heap.size → ((w5.setCell ⟨w.heap.size, 0, none⟩ (.slice (some ⟨g1, 0, none⟩) (i + 1) cap)).setCell ⟨w.heap.size, 1, none⟩ (.slice (some ⟨g2, 0, none⟩) (i + 1) cap2)).heap[k]? = w5.heap[k]?) := Lib.hid (fun k hk => (Below.heap_setCell _ _ _ _ hk).trans (Below.heap_setCell _ _ _ _ hk))
                      go_roundg (gk - 1)
                      case measure => omega
                      case rel => exact ⟨i + 1, _, _, vs ++ [.slice none 0 0], by go_num, by omega, by omega, (blk_set HS6.out _).trans rfl, Lib.hid (by rw [HTK.out, flatM_snoc]; exact ownsRow_of OM5.out (fun k hk => HBS.out k (by have := (OM5.out.lt k hk).1; omega))), Lib.hid (ownsRow_of hown5 (fun k hk => HBS.out k (by have := (hown5.lt k hk).1; omega))), Lib.hid (fun e => absurd (Option.some.inj (show some g1 = some g2 from e)) HG2.out), Lib.hid (by rw [HTK.out]; exact Rdy.snoc (Rdy.frame HRD.out (fun k hk hS => ⟨((HBS.out k (by have := hS.1; omega)).trans (HB5.out k (by omega) hS.2.1 hS.2.2)).trans (HCW.out.block k hk (fun h => h)), hS.1, fun e => HE4.out k (by omega) hS.2.1 (Option.some.inj e), fun e => HE5.out k (by omega) hS.2.2 (Option.some.inj e)⟩)) ⟨_, _, _, rfl⟩ (fun h => by have := HOP.out; omega)), HRE, Lib.hid (((HC5.out.setCell (.inr (Nat.le_refl _)) _).setCell (.inr (Nat.le_refl _)) _).below (fun k hk h => by omega))⟩
                  · refine anyG_op (late := fun i => !([5, 7, 8, 12, 14, 15].contains i)) (i := 14) (o := { dst := some 67, op := .buildSlice 53 1 #[(0, .tmp 66)], type := 53, pos := "match.go:55", after := #[{ on := 13, ground := .data }], guard := none }) (by rfl) (by rfl) (fun K' hK => ?_)
                    go_simp
                    refine hK.out _ _ ⟨by first | exact blk_alloc (w := W0.drew) HMW.out _ | exact blk_alloc (blk_alloc (w := W0.drew) HMW.out _) _, by first | exact blk_alloc (w := W0.drew) HRW.out _ | exact blk_alloc (blk_alloc (w := W0.drew) HRW.out _) _⟩ (fun _ => ⟨⟨by first | exact blk_alloc (w := W0.drew) HMW.out _ | exact blk_alloc (blk_alloc (w := W0.drew) HMW.out _) _, by first | exact blk_alloc (w := W0.drew) HRW.out _ | exact blk_alloc (blk_alloc (w := W0.drew) HRW.out _) _⟩, by first | exact blk_alloc (w := W0.drew) HSW.out _ | exact blk_alloc (blk_alloc (w := W0.drew) HSW.out _) _⟩) ?_
                    clear hK K'
                    refine anyG_all (rs := [7]) (by kernel_rfl) (by simp) ?_
                    intro j hj
                    simp only [List.mem_cons, List.not_mem_nil, or_false] at hj
                    subst hj
                    refine anyG_op (late := fun i => !([5, 7, 8, 12, 14, 15].contains i)) (i := 7) (o := { dst := some 60, op := .buildSlice 33 1 #[(0, .tmp 59)], type := 33, pos := "match.go:55", after := #[{ on := 6, ground := .data }], guard := none }) (by rfl) (by rfl) (fun K' hK => ?_)
                    go_simp
                    refine hK.out _ _ ⟨by first | exact blk_alloc (w := W0.drew) HMW.out _ | exact blk_alloc (blk_alloc (w := W0.drew) HMW.out _) _, by first | exact blk_alloc (w := W0.drew) HRW.out _ | exact blk_alloc (blk_alloc (w := W0.drew) HRW.out _) _⟩ (fun _ => ⟨⟨by first | exact blk_alloc (w := W0.drew) HMW.out _ | exact blk_alloc (blk_alloc (w := W0.drew) HMW.out _) _, by first | exact blk_alloc (w := W0.drew) HRW.out _ | exact blk_alloc (blk_alloc (w := W0.drew) HRW.out _) _⟩, by first | exact blk_alloc (w := W0.drew) HSW.out _ | exact blk_alloc (blk_alloc (w := W0.drew) HSW.out _) _⟩) ?_
                    clear hK K'
                    refine anyG_all (rs := [8]) (by kernel_rfl) (by simp) ?_
                    intro j hj
                    simp only [List.mem_cons, List.not_mem_nil, or_false] at hj
                    subst hj
                    refine anyG_op (late := fun i => !([5, 7, 8, 12, 14, 15].contains i)) (i := 8) (o := { dst := some 61, op := .call { callee := .builtin .append, args := #[.tmp 58, .tmp 60], argTypes := #[33, 33] }, type := 33, pos := "match.go:55", after := #[{ on := 5, ground := .data }, { on := 7, ground := .data }], guard := none }) (by rfl) (by rfl) (fun K' hK => ?_)
                    refine wp_append_lies _ (.tmp 58) (.tmp 60) 33 (by rfl) (w.heap.size + 1) 36 i0 (.agg #[.string ⟨#[]⟩, .int .i64 0, .string ⟨#[]⟩]) 3 40 Tryd.underlying33 hinf hz0 hz1 hz2 rfl (by decide) (.slice mA mN mC) i (flatM (l.take i)) (by rfl) (by first | exact World.ownsRow.alloc (w := W0.drew) OM0.out _ | exact (World.ownsRow.alloc (w := W0.drew) OM0.out _).alloc _) ⟨_, 0, none⟩ 1 1 [.string x.name, .int .i64 x.op, .string x.value] (by rfl) rfl (World.news_of_block (by first | exact blk_new _ _ | exact blk_alloc (blk_new _ _) _ | exact blk_new' _ _ _ (by simp))) (fun u hu => by simp at hu; rcases hu with rfl | rfl | rfl <;> rfl) (by decide) (by unfold maxLen; omega) (by omega) (by simp; omega) _ rfl (fun g1 cap w4 hown4 hgr4 hor4 hlt4 => ?_)
                    have hz4 : Hid (W0.heap.size ≤ w4.heap.size) := Lib.hid (by have := hgr4.size; simp at this; omega)
                    have HM4 := Lib.hid (blk_grown (by first | exact HMW.out | exact blk_alloc (w := W0.drew) HMW.out _ | exact blk_alloc (blk_alloc (w := W0.drew) HMW.out _) _) hgr4 (HNM0.out _ (Nat.le_refl _)).1)
                    have HS4 := Lib.hid (blk_grown (by first | exact HSW.out | exact blk_alloc (w := W0.drew) HSW.out _ | exact blk_alloc (blk_alloc (w := W0.drew) HSW.out _) _) hgr4 HNS0.out.1)
                    have HR4 := Lib.hid (blk_grown (by first | exact HRW.out | exact blk_alloc (w := W0.drew) HRW.out _ | exact blk_alloc (blk_alloc (w := W0.drew) HRW.out _) _) hgr4 (HNM0.out _ (by omega)).1)
                    have OR4 := Lib.hid (World.ownsRow.kept (by first | exact World.ownsRow.alloc (w := W0.drew) OR0.out _ | exact (World.ownsRow.alloc (w := W0.drew) OR0.out _).alloc _) hgr4 HNE0.out)
                    have HG1 : Hid (some g1 ≠ (Value.slice rA rN rC).ownBlock) := Lib.hid (fun e => by
                      rcases hor4 with h4 | h4
                      · exact absurd (hne.out (h4.trans e)) (by rw [h4]; simp)
                      · have := (OR0.out.lt _ e.symm).2
                        simp at h4; omega)
                    have HB4 : Hid (∀ k, k < W0.heap.size → some k ≠ (Value.slice mA mN mC).ownBlock → w4.heap[k]? = W0.heap[k]?) := Lib.hid (fun k hk hm => (hgr4.block k (by simp; omega) hm).trans (by first | exact Below.heap_alloc W0 _ k hk | exact (Below.heap_alloc _ _ k (by simp; omega)).trans (Below.heap_alloc W0 _ k hk)))
                    have HE4 : Hid (∀ k, k < W0.heap.size → some k ≠ (Value.slice mA mN mC).ownBlock → k ≠ g1) := Lib.hid (fun k hk hm e => by
                      rcases hor4 with h4 | h4
                      · exact hm (by rw [e, h4])
                      · simp at h4; omega)
                    have HC4 : Hid (Chg (fun k => w.heap.size ≤ k) w w4) := Lib.hid (by first | exact ((HC0.out.alloc _).drew).grown hgr4 (fun k hk => .inl (by have := (OM0.out.lt k hk).1; omega)) | exact (((HC0.out.alloc _).alloc _).drew).grown hgr4 (fun k hk => .inl (by have := (OM0.out.lt k hk).1; omega)))
                    refine hK.out _ _ ⟨HM4.out, HR4.out⟩ (fun _ => ⟨⟨HM4.out, HR4.out⟩, HS4.out⟩) ?_
                    clear hK K'
                    simp only [Act.put, List.setIfInBounds_toArray, List.set_cons_zero, List.set_cons_succ]
                    refine anyG_all (rs := [15]) (by kernel_rfl) (by simp) ?_
                    intro j hj
                    simp only [List.mem_cons, List.not_mem_nil, or_false] at hj
                    subst hj
                    refine anyG_op (late := fun i => !([5, 7, 8, 12, 14, 15].contains i)) (i := 15) (o := { dst := some 68, op := .call { callee := .builtin .append, args := #[.tmp 65, .tmp 67], argTypes := #[53, 53] }, type := 53, pos := "match.go:55", after := #[{ on := 12, ground := .data }, { on := 14, ground := .data }, { on := 8, ground := .chain }], guard := none }) (by rfl) (by rfl) (fun K' hK => ?_)
                    refine wp_append_lies _ (.tmp 65) (.tmp 67) 53 (by rfl) (w.heap.size + 1) 59 j0 (.agg #[.slice none 0 0]) 1 24 Tryd.underlying53 hjnf hy0 hy1 hy2 rfl (by decide) (.slice rA rN rC) i vs (by rfl) (by first | exact OR4.out | exact OR4.out.alloc _) ⟨_, 0, none⟩ 1 1 [.slice none 0 0] (by rfl) rfl (World.news_of_block (by first | exact blk_new _ _ | (refine blk_grown ?_ hgr4 (HNM0.out _ (by first | omega | (simp; omega))).1; first | exact blk_new _ _ | exact blk_alloc (blk_new _ _) _ | exact blk_new' _ _ _ (by simp)))) (fun u hu => by simp at hu; subst hu; rfl) (by decide) (by unfold maxLen; omega) (by omega) (by have := hz4.out; first | omega | (simp; omega)) _ rfl (fun g2 cap2 w5 hown5 hgr5 hor5 hlt5 => ?_)
                    have HM5 := Lib.hid (blk_grown (by first | exact HM4.out | exact blk_alloc HM4.out _) hgr5 (HNM0.out _ (Nat.le_refl _)).2)
                    have HS5 := Lib.hid (blk_grown (by first | exact HS4.out | exact blk_alloc HS4.out _) hgr5 HNS0.out.2)
                    have HR5 := Lib.hid (blk_grown (by first | exact HR4.out | exact blk_alloc HR4.out _) hgr5 (HNM0.out _ (by omega)).2)
                    have OM5 := Lib.hid (World.ownsRow.kept (by first | exact hown4 | exact hown4.alloc _) hgr5 (.inr (show (Value.slice (some ⟨g1, 0, none⟩) (i + 1) cap).ownBlock ≠ _ from HG1.out)))
                    have HG2 : Hid (g1 ≠ g2) := Lib.hid (fun e => by
                      rcases hor5 with h5 | h5
                      · exact HG1.out (by rw [e, h5])
                      · first | (simp at h5; omega) | omega)
                    have HB5 : Hid (∀ k, k < W0.heap.size → some k ≠ (Value.slice mA mN mC).ownBlock → some k ≠ (Value.slice rA rN rC).ownBlock → w5.heap[k]? = W0.heap[k]?) := Lib.hid (fun k hk hm hr => (hgr5.block k (by have := hz4.out; first | omega | (simp; omega)) hr).trans (by first | exact HB4.out k hk hm | exact (Below.heap_alloc _ _ k (by have := hz4.out; omega)).trans (HB4.out k hk hm)))
                    have HE5 : Hid (∀ k, k < W0.heap.size → some k ≠ (Value.slice rA rN rC).ownBlock → k ≠ g2) := Lib.hid (fun k hk hm e => by
                      rcases hor5 with h5 | h5
                      · exact hm (by rw [e, h5])
                      · have := hz4.out; first | omega | (simp at h5; omega))
                    have HC5 : Hid (Chg (fun k => w.heap.size ≤ k) w w5) := Lib.hid (by first | exact HC4.out.grown hgr5 (fun k hk => .inl (by have := (OR0.out.lt k hk).1; omega)) | exact (HC4.out.alloc _).grown hgr5 (fun k hk => .inl (by have := (OR0.out.lt k hk).1; omega)))
                    refine hK.out _ _ ⟨HM5.out, HR5.out⟩ (fun _ => ⟨⟨HM5.out, HR5.out⟩, HS5.out⟩) ?_
                    clear hK K'
                    simp only [Act.put, List.setIfInBounds_toArray, List.set_cons_zero, List.set_cons_succ]
                    have y0 := blk_free (o := 0) HS5.out
                    have y1 : w5.cell? ⟨w.heap.size, 0, none⟩ = some (.slice mA mN mC) := (blk_cell HS5.out).trans rfl
                    refine anyG_takeS (i := 16) (d := some 69) (v := .pointer (some ⟨w.heap.size, 0, none⟩)) rfl rfl (by kernel_rfl) (by kernel_rfl) (by kernel_rfl) rfl (fun _ _ _ h => h) ⟨HM5.out, HR5.out⟩ (.inl ⟨rfl, fun _ _ => rfl⟩) ?_
                    simp only [Act.put, List.setIfInBounds_toArray, List.set_cons_zero, List.set_cons_succ]
                    refine anyG_takeS (i := 17) (d := some 70) (v := .pointer (some ⟨w.heap.size, 0, none⟩)) rfl rfl (by kernel_rfl) (by kernel_rfl) (by kernel_rfl) rfl (fun _ _ _ h => h) ⟨HM5.out, HR5.out⟩ (.inl ⟨rfl, fun _ _ => rfl⟩) ?_
                    simp only [Act.put, List.setIfInBounds_toArray, List.set_cons_zero, List.set_cons_succ]
                    refine anyG_all (rs := [18]) (by kernel_rfl) (by simp) ?_
                    intro j hj
                    simp only [List.mem_cons, List.not_mem_nil, or_false] at hj
                    subst hj
                    refine anyG_op (late := fun i => !([5, 7, 8, 12, 14, 15].contains i)) (i := 18) (o := { dst := none, op := .store 33 (.tmp 70) (.tmp 61), type := 0, pos := "match.go:55", after := #[{ on := 17, ground := .data }, { on := 8, ground := .data }, { on := 15, ground := .chain }, { on := 0, ground := .phase }, { on := 1, ground := .textOnly .lateStores }, { on := 2, ground := .phase }, { on := 3, ground := .phase }, { on := 4, ground := .phase }, { on := 5, ground := .phase }, { on := 6, ground := .phase }, { on := 7, ground := .phase }, { on := 8, ground := .phase }, { on := 9, ground := .textOnly .lateStores }, { on := 10, ground := .textOnly .lateStoresUnsure }, { on := 11, ground := .textOnly .lateStoresUnsure }, { on := 12, ground := .phase }, { on := 13, ground := .textOnly .lateStores }, { on := 14, ground := .textOnly .lateStoresUnsure }, { on := 15, ground := .phase }], guard := none }) (by rfl) (by rfl) (fun K' hK => ?_)
                    go_simp
                    have HS6 := Lib.hid (show (w5.setCell ⟨w.heap.size, 0, none⟩ (.slice (some ⟨g1, 0, none⟩) (i + 1) cap)).heap[w.heap.size]? = some (.cells #[.slice (some ⟨g1, 0, none⟩) (i + 1) cap, .slice rA rN rC] 55 (0, 0)) from (blk_set HS5.out _).trans rfl)
                    have HM6 := Lib.hid (blk_set_far HM5.out (p := ⟨w.heap.size, 0, none⟩) (by simp; omega) (.slice (some ⟨g1, 0, none⟩) (i + 1) cap))
                    have HR6 := Lib.hid (blk_set_far HR5.out (p := ⟨w.heap.size, 0, none⟩) (by simp; omega) (.slice (some ⟨g1, 0, none⟩) (i + 1) cap))
                    refine hK.out _ _ ⟨HM6.out, HR6.out⟩ (fun e => absurd e (by decide)) ?_
                    clear hK K'
                    clear y0 y1
                    have y2 := blk_free (o := 1) HS6.out
                    have y3 : (w5.setCell ⟨w.heap.size, 0, none⟩ (.slice (some ⟨g1, 0, none⟩) (i + 1) cap)).cell? ⟨w.heap.size, 1, none⟩ = some (.slice rA rN rC) := (blk_cell HS6.out).trans rfl
                    refine anyG_takeS (i := 19) (d := some 71) (v := .pointer (some ⟨w.heap.size, 0, none⟩)) rfl rfl (by kernel_rfl) (by kernel_rfl) (by kernel_rfl) rfl (fun _ _ _ h => h) ⟨HM6.out, HR6.out⟩ (.inl ⟨rfl, fun _ _ => rfl⟩) ?_
                    simp only [Act.put, List.setIfInBounds_toArray, List.set_cons_zero, List.set_cons_succ]
                    refine anyG_takeS (i := 20) (d := some 72) (v := .pointer (some ⟨w.heap.size, 1, none⟩)) rfl rfl (by kernel_rfl) (by kernel_rfl) (by kernel_rfl) rfl (fun _ _ _ h => h) ⟨HM6.out, HR6.out⟩ (.inl ⟨rfl, fun _ _ => rfl⟩) ?_
                    simp only [Act.put, List.setIfInBounds_toArray, List.set_cons_zero, List.set_cons_succ]
                    refine anyG_all (rs := [21]) (by kernel_rfl) (by simp) ?_
                    intro j hj
                    simp only [List.mem_cons, List.not_mem_nil, or_false] at hj
                    subst hj
                    refine anyG_op (late := fun i => !([5, 7, 8, 12, 14, 15].contains i)) (i := 21) (o := { dst := none, op := .store 53 (.tmp 72) (.tmp 68), type := 0, pos := "match.go:55", after := #[{ on := 20, ground := .data }, { on := 15, ground := .data }, { on := 18, ground := .chain }, { on := 0, ground := .phase }, { on := 1, ground := .phase }, { on := 2, ground := .phase }, { on := 3, ground := .phase }, { on := 4, ground := .phase }, { on := 5, ground := .phase }, { on := 6, ground := .phase }, { on := 7, ground := .phase }, { on := 8, ground := .phase }, { on := 9, ground := .phase }, { on := 10, ground := .phase }, { on := 11, ground := .phase }, { on := 12, ground := .phase }, { on := 13, ground := .phase }, { on := 14, ground := .phase }, { on := 15, ground := .phase }, { on := 16, ground := .phase }, { on := 17, ground := .phase }, { on := 18, ground := .phase }], guard := none }) (by rfl) (by rfl) (fun K' hK => ?_)
                    go_simp
                    refine hK.out _ _ ⟨blk_set_far HM6.out (by simp; omega) _, blk_set_far HR6.out (by simp; omega) _⟩ (fun e => absurd e (by decide)) ?_
                    clear hK K'
                    refine anyG_end (by kernel_rfl) ?_
                    refine NoPanic.normal ?_
                    go_wp2
                    have HBS : Hid (∀ k, k ≠ w.heap.size → ((w5.setCell ⟨w.heap.size, 0, none⟩ (.slice (some ⟨g1, 0, none⟩) (i + 1) cap)).setCell ⟨w.heap.size, 1, none⟩ (.slice (some ⟨g2, 0, none⟩) (i + 1) cap2)).heap[k]? = w5.heap[k]?) := Lib.hid (fun k hk => (Below.heap_setCell _ _ _ _ hk).trans (Below.heap_setCell _ _ _ _ hk))
                    go_roundg (gk - 1)
                    case measure => omega
                    case rel => exact ⟨i + 1, _, _, vs ++ [.slice none 0 0], by go_num, by omega, by omega, (blk_set HS6.out _).trans rfl, Lib.hid (by rw [HTK.out, flatM_snoc]; exact ownsRow_of OM5.out (fun k hk => HBS.out k (by have := (OM5.out.lt k hk).1; omega))), Lib.hid (ownsRow_of hown5 (fun k hk => HBS.out k (by have := (hown5.lt k hk).1; omega))), Lib.hid (fun e => absurd (Option.some.inj (show some g1 = some g2 from e)) HG2.out), Lib.hid (by rw [HTK.out]; exact Rdy.snoc (Rdy.frame HRD.out (fun k hk hS => ⟨((HBS.out k (by have := hS.1; omega)).trans (HB5.out k (by omega) hS.2.1 hS.2.2)).trans (HCW.out.block k hk (fun h => h)), hS.1, fun e => HE4.out k (by omega) hS.2.1 (Option.some.inj e), fun e => HE5.out k (by omega) hS.2.2 (Option.some.inj e)⟩)) ⟨_, _, _, rfl⟩ (fun h => by have := HOP.out; omega)), HRE, Lib.hid (((HC5.out.setCell (.inr (Nat.le_refl _)) _).setCell (.inr (Nat.le_refl _)) _).below (fun k hk h => by omega))⟩
      · obtain rfl : i = l.length := by omega
        have hr0 : R = 0 := matsErr_end (Nat.le_refl _) HRR.out
        have hc1 : decide (l.length < l.length) = false := decide_eq_false (by omega)
        subst hr0
        rw [List.take_of_length_le (Nat.le_refl _)] at HOM HRD
        clear HRR
        go_wp2
        refine bodyPost_ret (v := .tuple #[.pointer (some ⟨w.heap.size, 0, none⟩), .int .i64 0]) (by simp [results, Tryd.results11, go_sem]) rfl ?_
        exact ⟨hbel.out, ⟨_, rfl, _, _, vs, HBX.out, MS.of_row HOM.out (by omega), ⟨_, _, _, rfl⟩, RS_of_row HOR.out, HRD.out.frame (fun k _ _ => ⟨rfl, trivial⟩)⟩⟩
end Go.Proofs.YtmlmnckhiianhaaDoor
