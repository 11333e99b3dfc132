/- Match: whether all of a selector's matchers hold of labels, walked. -/
import Derived.Test.YtmlmnckhiianhaaDoorMaG
import Derived.Test.YtmlmnckhiianhaaDoorMaD
import Derived.Test.YtmlmnckhiianhaaDoorRxO
namespace Go.Proofs.YtmlmnckhiianhaaDoor
open Go.RowKit
set_option linter.unusedVariables false
set_option linter.unusedSimpArgs false

theorem bys_inj {s t : ByteArray} : (bys s = bys t) ↔ s = t := by
  constructor
  · intro h
    obtain ⟨⟨l⟩⟩ := s
    obtain ⟨⟨m⟩⟩ := t
    unfold bys at h
    have := (List.map_inj_right (fun a b hab => UInt8.toNat_inj.1 hab)).1 h
    simp only at this
    rw [this]
  · rintro rfl; rfl
theorem holds_0 {x : SM} (h : x.op = 0) (s : ByteArray) : holdsV (toMat x) (bys s) = (s.toList == x.value.toList) := by
  unfold holdsV toMat
  simp only [h, if_true]
  rw [← str_eq]
  exact decide_eq_decide.2 bys_inj
theorem holds_1 {x : SM} (h : x.op = 1) (s : ByteArray) : holdsV (toMat x) (bys s) = !(s.toList == x.value.toList) := by
  unfold holdsV toMat
  simp only [h, if_true]
  rw [if_neg (by decide), ← str_eq]
  congr 1
  exact decide_eq_decide.2 bys_inj
theorem holds_2 {x : SM} {r : Rx} (h : x.op = 2) (hr : Rx.parse (bys x.value) = .ok r) (u : List Nat) : holdsV (toMat x) u = mt r u := by
  unfold holdsV toMat asks
  simp only [h, hr]
  rw [if_neg (by decide), if_neg (by decide)]
  simp
theorem holds_3 {x : SM} {r : Rx} (h : x.op = 3) (hr : Rx.parse (bys x.value) = .ok r) (u : List Nat) : holdsV (toMat x) u = !mt r u := by
  unfold holdsV toMat asks
  simp only [h, hr]
  rw [if_neg (by decide), if_neg (by decide), if_neg (by decide)]

set_option maxRecDepth 100000 in
set_option maxHeartbeats 1000000 in
theorem asks_calls (g : Nat) (l : List SM) (w : World) (hs : Sel w g l) (i : Nat) (x : SM) (hx : l[i]? = some x) (hm : matErr (toMat x) = 0) (s : ByteArray) (h64 : s.size ≤ 64) :
    Calls Tryd.prog 24 #[.pointer (some ⟨g, 0, none⟩), .int .i64 (i : Int), .string s] w fun e w' => e = .returned (.bool (holdsV (toMat x) (bys s))) ∧ Below w.heap.size w w' := by
  obtain ⟨lv, rv, vs, hb, ⟨A, c, rfl, hn, hmr⟩, ⟨rA, rn, rc, rfl⟩, ⟨c2, A2, e2, hrr⟩, hrd⟩ := hs
  injection e2 with e3 e4 e5
  subst e3 e4 e5
  have hil := (List.getElem?_eq_some_iff.1 hx).1
  obtain ⟨g1, o1, rfl, hrg⟩ := hmr i x hx
  have b0 : w.cell? ⟨g, 0, none⟩ = some (.slice (some ⟨g1, o1, none⟩) l.length c) := (blk_cell hb).trans rfl
  have hc2 : (i : Int) < (l.length : Int) := by omega
  have hc3 : (0 : Int) ≤ (i : Int) := by omega
  have HRG := Lib.hid hrg
  have hro : ¬ (x.op < 0 ∨ 3 < x.op) := by
    intro hh; rw [matErr_range hh] at hm; cases hm
  have h4 : x.op = 0 ∨ x.op = 1 ∨ x.op = 2 ∨ x.op = 3 := by omega
  have hzg := blk_lt hb
  have hpr : 2 ≤ x.op → ∃ r v g2 o2, Rx.parse (bys x.value) = .ok r ∧ RegV w (fun _ => True) v r.table ∧ rA = some ⟨g2, o2, none⟩ ∧ w.cell? ⟨g2, o2 + i, none⟩ = some v ∧ Rx.sz r ≤ 90000 := fun ho => by
    have hiv : i < vs.length := by rw [hrd.1]; exact hil
    obtain ⟨v, hv⟩ : ∃ v, vs[i]? = some v := ⟨_, List.getElem?_eq_getElem hiv⟩
    obtain ⟨r, h1, h2⟩ := (hrd.2 i x v hx hv).2 ho
    obtain ⟨g2, o2, h3, h4⟩ := hrr i v hv
    exact ⟨r, v, g2, o2, h1, h2, h3, h4, by have := Rx.parse_sz h1; omega⟩
  clear hrg hro hm
  unfold smCells at HRG
  rcases h4 with h4 | h4 | h4 | h4
  · rw [h4] at HRG
    have HV := Lib.hid (holds_0 h4 s)
    clear h4 hb hmr hrr hrd hpr
    rw [HV.out]
    go_enter Tryd.func24, Tryd.ntmps24
    go_wp2_with (refine wpList_load_mid rfl _ (.tmp 13) rfl g1 (o1 + i * 3) rfl _ _ HRG.out Tryd.underlying36 rfl (by kernel_rfl) ?_)
    go_ret
    exact ⟨rfl, (Below.refl _ _).alloc (Nat.le_refl _) _⟩
  · rw [h4] at HRG
    have HV := Lib.hid (holds_1 h4 s)
    clear h4 hb hmr hrr hrd hpr
    rw [HV.out]
    go_enter Tryd.func24, Tryd.ntmps24
    go_wp2_with (refine wpList_load_mid rfl _ (.tmp 13) rfl g1 (o1 + i * 3) rfl _ _ HRG.out Tryd.underlying36 rfl (by kernel_rfl) ?_)
    go_ret
    exact ⟨rfl, (Below.refl _ _).alloc (Nat.le_refl _) _⟩
  · obtain ⟨r, v, g2, o2, hp, hrv, rfl, hcell, hsz⟩ := hpr (by omega)
    rw [h4] at HRG
    have HV := Lib.hid (holds_2 h4 hp (bys s))
    rw [HV.out]
    obtain ⟨w1, hw1⟩ : ∃ w1 : World, w1 = w.alloc (.cells #[.string x.name, .int .i64 2, .string x.value] 36) := ⟨_, rfl⟩
    have c0 : (w.alloc (.cells #[.string x.name, .int .i64 2, .string x.value] 36)).cell? ⟨g2, o2 + i, none⟩ = some v := by
      rw [((Below.refl _ _).alloc (Nat.le_refl _) _).cell (block_lt_of_cell hcell)]; exact hcell
    have c1 : (w.alloc (.cells #[.string x.name, .int .i64 2, .string x.value] 36)).cell? ⟨g, 1, none⟩ = some (.slice (some ⟨g2, o2, none⟩) l.length rc) := (blk_cell (blk_alloc hb _)).trans rfl
    have HRV := Lib.hid (hrv.frame (w' := w.alloc (.cells #[.string x.name, .int .i64 2, .string x.value] 36)) (fun k hk _ => ⟨Below.heap_alloc w _ k hk, trivial⟩))
    clear h4 hb hmr hrr hrd hpr hp hrv hw1
    go_enter Tryd.func24, Tryd.ntmps24
    go_wp2_with (first | (refine wpList_load_mid rfl _ (.tmp 13) rfl g1 (o1 + i * 3) rfl _ _ HRG.out Tryd.underlying36 rfl (by kernel_rfl) ?_) | (go_at_call 40; (fail_if_success (have := hbM)); ((refine (Match_ok r hsz v s (by omega) _ HRV.out).mono ?_); rintro e w3 ⟨rfl, hbM⟩)))
    go_ret
    exact ⟨rfl, below_thn ((Below.refl _ _).alloc (Nat.le_refl _) _) hbM⟩
  · obtain ⟨r, v, g2, o2, hp, hrv, rfl, hcell, hsz⟩ := hpr (by omega)
    rw [h4] at HRG
    have HV := Lib.hid (holds_3 h4 hp (bys s))
    rw [HV.out]
    obtain ⟨w1, hw1⟩ : ∃ w1 : World, w1 = w.alloc (.cells #[.string x.name, .int .i64 3, .string x.value] 36) := ⟨_, rfl⟩
    have c0 : (w.alloc (.cells #[.string x.name, .int .i64 3, .string x.value] 36)).cell? ⟨g2, o2 + i, none⟩ = some v := by
      rw [((Below.refl _ _).alloc (Nat.le_refl _) _).cell (block_lt_of_cell hcell)]; exact hcell
    have c1 : (w.alloc (.cells #[.string x.name, .int .i64 3, .string x.value] 36)).cell? ⟨g, 1, none⟩ = some (.slice (some ⟨g2, o2, none⟩) l.length rc) := (blk_cell (blk_alloc hb _)).trans rfl
    have HRV := Lib.hid (hrv.frame (w' := w.alloc (.cells #[.string x.name, .int .i64 3, .string x.value] 36)) (fun k hk _ => ⟨Below.heap_alloc w _ k hk, trivial⟩))
    clear h4 hb hmr hrr hrd hpr hp hrv hw1
    go_enter Tryd.func24, Tryd.ntmps24
    go_wp2_with (first | (refine wpList_load_mid rfl _ (.tmp 13) rfl g1 (o1 + i * 3) rfl _ _ HRG.out Tryd.underlying36 rfl (by kernel_rfl) ?_) | (go_at_call 40; (fail_if_success (have := hbM)); ((refine (Match_ok r hsz v s (by omega) _ HRV.out).mono ?_); rintro e w3 ⟨rfl, hbM⟩)))
    go_ret
    exact ⟨rfl, below_thn ((Below.refl _ _).alloc (Nat.le_refl _) _) hbM⟩
end Go.Proofs.YtmlmnckhiianhaaDoor

namespace Go.Proofs.YtmlmnckhiianhaaDoor
open Go.RowKit
set_option linter.unusedVariables false
set_option linter.unusedSimpArgs false

def toLbl (y : ByteArray × ByteArray) : Lbl := ⟨bys y.1, bys y.2⟩
theorem valOf_getB (l : List (ByteArray × ByteArray)) (s : ByteArray) : valOf (l.map toLbl) (bys s) = bys (getB l s) := by
  induction l with
  | nil => rfl
  | cons x l ih =>
    rw [List.map_cons]
    unfold valOf getB
    by_cases h : x.1 = s
    · rw [if_pos h, if_pos (show (toLbl x).name = bys s by rw [← h]; rfl)]; rfl
    · rw [if_neg h, if_neg (show ¬ (toLbl x).name = bys s from fun e => h (bys_inj.1 e)), ih]
theorem getB_64 {l : List (ByteArray × ByteArray)} {n : Nat} (h : ∀ y, y ∈ l → y.2.size ≤ n) (s : ByteArray) : (getB l s).size ≤ n := by
  induction l with
  | nil => exact Nat.zero_le _
  | cons x l ih =>
    unfold getB
    by_cases e : x.1 = s
    · rw [if_pos e]; exact h x (by simp)
    · rw [if_neg e]; exact ih (fun y hy => h y (by simp [hy]))
theorem Sel.below {w w' : World} {g : Nat} {l : List SM} (h : Sel w g l) (hb : Below w.heap.size w w') : Sel w' g l := by
  obtain ⟨lv, rv, vs, h1, h2, h3, ⟨c, A, h4, h5⟩, h6⟩ := h
  exact ⟨lv, rv, vs, blk_below hb h1, h2.below hb, h3, ⟨c, A, h4, fun i v hv => by
    obtain ⟨g, o, h7, h8⟩ := h5 i v hv
    exact ⟨g, o, h7, by rw [hb.cell (block_lt_of_cell h8)]; exact h8⟩⟩, h6.frame (fun k hk _ => ⟨hb.block k hk, trivial⟩)⟩
theorem holdsAll_step {l : List SM} {x : SM} {i : Nat} {u : List Lbl} (hx : l[i]? = some x) : holdsAll ((l.drop i).map toMat) u = (holdsV (toMat x) (valOf u (bys x.name)) && holdsAll ((l.drop (i + 1)).map toMat) u) := by
  have hi := (List.getElem?_eq_some_iff.1 hx).1
  have hdr : l.drop i = x :: l.drop (i + 1) := by
    rw [List.drop_eq_getElem_cons hi]; congr 1
    rw [List.getElem?_eq_getElem hi] at hx; injection hx
  rw [hdr]
  unfold holdsAll
  rw [List.map_cons, List.all_cons]
  rfl

set_option maxRecDepth 100000 in
set_option maxHeartbeats 1000000 in
theorem selMatch_calls (g : Nat) (l : List SM) (w : World) (hs : Sel w g l) (hm : ∀ (i : Nat) (x : SM), l[i]? = some x → matErr (toMat x) = 0) (v : Value) (lb : List (ByteArray × ByteArray)) (hl : LS w v lb) (h64 : ∀ y, y ∈ lb → y.2.size ≤ 64) :
    Calls Tryd.prog 13 #[.pointer (some ⟨g, 0, none⟩), v] w fun e w' => e = .returned (.bool (holdsAll (l.map toMat) (lb.map toLbl))) ∧ Below w.heap.size w w' := by
  have HS := Lib.hid hs
  have HL := Lib.hid hl
  obtain ⟨lv, rv, vs, hb, ⟨A, c, rfl, hn, hmr⟩, -⟩ := hs
  obtain ⟨lA, lc, hv, -⟩ := hl
  subst hv
  have HM := Lib.hid hmr
  have HE := Lib.hid hm
  have H64 := Lib.hid h64
  have b0 : w.cell? ⟨g, 0, none⟩ = some (.slice A l.length c) := (blk_cell hb).trans rfl
  have hzg := blk_lt hb
  generalize hR : holdsAll (l.map toMat) (lb.map toLbl) = R
  have HR := Lib.hid hR
  clear hR hmr hm h64 hb
  go_enter Tryd.func13, Tryd.ntmps13
  go_wp2
  go_loopg [14] (l.length + 1) (fun k u14 wr => ∃ i : Nat, u14 = .int .i64 (i : Int) ∧ i + k = l.length + 1 ∧ i ≤ l.length ∧ Hid (holdsAll ((l.drop i).map toMat) (lb.map toLbl) = R) ∧ Hid (Below w.heap.size w wr))
  case atStart => exact ⟨0, rfl, by omega, by omega, HR, Lib.hid (Below.refl _ _)⟩
  case round =>
    obtain ⟨i, rfl, hik, hil, HRR, hbel⟩ := hrel
    obtain ⟨wo, rfl⟩ : ∃ m : World, m = wr := ⟨_, rfl⟩
    clear HR
    by_cases hi : i < l.length
    · have hc1 : decide (i < l.length) = true := decide_eq_true hi
      have hc2 : (i : Int) < (l.length : Int) := by omega
      have hc3 : (0 : Int) ≤ (i : Int) := by omega
      obtain ⟨x, hxl⟩ : ∃ x, l[i]? = some x := ⟨_, List.getElem?_eq_getElem hi⟩
      obtain ⟨g1, o1, rfl, hrg⟩ := HM.out i x hxl
      have HRG := Lib.hid (rangeAt_below hrg hbel.out)
      have HXL := Lib.hid hxl
      have hst := HRR.out
      rw [holdsAll_step hxl, valOf_getB] at hst
      clear hrg hxl b0
      unfold smCells at HRG
      obtain ⟨E, hE⟩ : ∃ E : Bool, holdsV (toMat x) (bys (getB lb x.name)) = E := ⟨_, rfl⟩
      have HV := Lib.hid hE
      rw [hE] at hst
      clear hE
      cases E with
      | false =>
        obtain rfl : R = false := by simpa using hst.symm
        clear hst
        go_wp2_with (first | (refine wpList_load_mid rfl _ (.tmp 17) rfl g1 (o1 + i * 3) rfl _ _ HRG.out Tryd.underlying36 rfl (by kernel_rfl) ?_) | (go_at_call 25; (fail_if_success (have := hbG)); ((refine (get_calls _ lb x.name _ ((HL.out.below hbel.out).below (Below.alloc (Below.refl _ _) (Nat.le_refl _) _))).mono ?_); rintro e w3 ⟨rfl, hbG⟩)) | (go_at_call 24; (fail_if_success (have := hbA)); ((refine (asks_calls g l _ (((HS.out.below hbel.out).below (Below.alloc (Below.refl _ _) (Nat.le_refl _) _)).below hbG) i x HXL.out (HE.out i x HXL.out) _ (getB_64 H64.out _)).mono ?_); rintro e w4 ⟨rfl, hbA⟩; rw [HV.out])))
        go_ret
        exact ⟨rfl, below_thn (below_thn (below_thn hbel.out (Below.alloc (Below.refl _ _) (Nat.le_refl _) _)) hbG) hbA⟩
      | true =>
        have HN := Lib.hid (show holdsAll ((l.drop (i + 1)).map toMat) (lb.map toLbl) = R by simpa using hst)
        clear hst
        go_wp2_with (first | (refine wpList_load_mid rfl _ (.tmp 17) rfl g1 (o1 + i * 3) rfl _ _ HRG.out Tryd.underlying36 rfl (by kernel_rfl) ?_) | (go_at_call 25; (fail_if_success (have := hbG)); ((refine (get_calls _ lb x.name _ ((HL.out.below hbel.out).below (Below.alloc (Below.refl _ _) (Nat.le_refl _) _))).mono ?_); rintro e w3 ⟨rfl, hbG⟩)) | (go_at_call 24; (fail_if_success (have := hbA)); ((refine (asks_calls g l _ (((HS.out.below hbel.out).below (Below.alloc (Below.refl _ _) (Nat.le_refl _) _)).below hbG) i x HXL.out (HE.out i x HXL.out) _ (getB_64 H64.out _)).mono ?_); rintro e w4 ⟨rfl, hbA⟩; rw [HV.out])))
        go_roundg (gk - 1)
        case measure => omega
        case rel => exact ⟨i + 1, by go_num, by omega, by omega, HN, Lib.hid (below_thn (below_thn (below_thn hbel.out (Below.alloc (Below.refl _ _) (Nat.le_refl _) _)) hbG) hbA)⟩
    · obtain rfl : i = l.length := by omega
      have hc1 : decide (l.length < l.length) = false := decide_eq_false (by omega)
      have hr0 := HRR.out
      rw [List.drop_length] at hr0
      obtain rfl : R = true := hr0.symm
      go_wp2
      go_ret
      exact ⟨rfl, hbel.out⟩
end Go.Proofs.YtmlmnckhiianhaaDoor
