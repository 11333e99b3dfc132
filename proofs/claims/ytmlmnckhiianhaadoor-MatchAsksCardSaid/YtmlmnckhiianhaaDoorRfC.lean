/- The document's pattern reader: a class, walked. -/
import Derived.Test.YtmlmnckhiianhaaDoorRfB
namespace Go.Proofs.YtmlmnckhiianhaaDoor
open Go.RowKit
set_option linter.unusedVariables false
set_option linter.unusedSimpArgs false

theorem Chg.setG {g : Nat} {a w : World} (h : Chg (· = g) a w) (o : Nat) (v : Value) : Chg (· = g) a (w.setCell ⟨g, o, none⟩ v) := h.setCell (.inl rfl) v
theorem item_ok (g : Nat) (s : ByteArray) (i : Nat) (deep : Int) (w : World) (hs : s.size ≤ 64) (hi : i ≤ s.size) (hp : RS w g s i deep 0) {c j : Nat} (h : Rx.pOne (bys s) i = .ok (c, j)) :
    Calls Tryd.prog 76 #[.pointer (some ⟨g, 0, none⟩)] w fun e w' => e = .returned (.int .i64 (c : Nat)) ∧ RS w' g s (j : Nat) deep 0 ∧ c < 256 ∧ j ≤ s.size ∧ Chg (· = g) w w' :=
  (item_calls g s i deep w hs hi hp).mono fun e w' hr => by rw [h] at hr; obtain ⟨h1, h2, h3, h4, h5, h6⟩ := hr; exact ⟨h3, h4, h5, h6, h1⟩
theorem item_err (g : Nat) (s : ByteArray) (i : Nat) (deep : Int) (w : World) (hs : s.size ≤ 64) (hi : i ≤ s.size) (hp : RS w g s i deep 0) {er : Nat} (h : Rx.pOne (bys s) i = .error er) :
    Calls Tryd.prog 76 #[.pointer (some ⟨g, 0, none⟩)] w fun e w' => ∃ a : Nat, e = .returned (.int .i64 0) ∧ RS w' g s (a : Nat) deep 27 ∧ a ≤ s.size ∧ Chg (· = g) w w' :=
  (item_calls g s i deep w hs hi hp).mono fun e w' hr => by rw [h] at hr; obtain ⟨h1, h2, h3, rfl, a, h4, h5⟩ := hr; exact ⟨a, h3, h4, h5, h1⟩
theorem nx_eq (s : ByteArray) (i c : Nat) : (nx s i == (c : Int)) = decide ((bys s)[i]? = some c) := by
  unfold nx
  cases h : (bys s)[i]? with
  | none => simp
  | some d => rw [Bool.eq_iff_iff]; simp only [beq_iff_eq, decide_eq_true_eq, Option.some.injEq]; omega
theorem pItems_step (t : List Nat) (k j : Nat) (P : Nat → Bool) : Rx.pItems t (k + 1) j P = match Rx.pItem t j with
    | .error e => .error e
    | .ok ((low, high), j') => cLoop t k false j' (fun c => P c || (decide (low ≤ c) && decide (c ≤ high))) := by
  conv => lhs; unfold Rx.pItems
  cases Rx.pItem t j with
  | error e => rfl
  | ok x => obtain ⟨⟨low, high⟩, j'⟩ := x; rfl
theorem Sees.step {P : Nat → Bool} {bs : List Bool} {lo x : Nat} (h : Sees (fun y => P y || (decide (lo ≤ y) && decide (y < x))) bs) (hl : lo ≤ x) (hx : x < 256) : Sees (fun y => P y || (decide (lo ≤ y) && decide (y < x + 1))) (bs.set x true) := by
  refine ⟨by simpa using h.1, fun c hc => ?_⟩
  by_cases e : x = c
  · subst e
    rw [List.getElem?_set_self (by rw [h.1]; exact hx)]
    simp [hl]
  · rw [List.getElem?_set_ne e, h.2 c hc]
    congr 2
    have : decide (c < x) = decide (c < x + 1) := by rw [Bool.eq_iff_iff]; simp only [decide_eq_true_eq]; omega
    simp only [this]
theorem Sees.start {P : Nat → Bool} {bs : List Bool} (h : Sees P bs) (lo : Nat) : Sees (fun y => P y || (decide (lo ≤ y) && decide (y < lo))) bs := by
  have e : (fun y => P y || (decide (lo ≤ y) && decide (y < lo))) = P := funext fun y => by cases P y <;> simp <;> omega
  rw [e]; exact h
theorem Sees.close {P : Nat → Bool} {bs : List Bool} {lo x hi : Nat} (h : Sees (fun y => P y || (decide (lo ≤ y) && decide (y < x))) bs) (hx : x = hi + 1) : Sees (fun y => P y || (decide (lo ≤ y) && decide (y ≤ hi))) bs := by
  subst hx
  have e : (fun y => P y || (decide (lo ≤ y) && decide (y < hi + 1))) = (fun y => P y || (decide (lo ≤ y) && decide (y ≤ hi))) := funext fun y => by simp only [Nat.lt_succ_iff]
  rw [e] at h; exact h
/-- The first answers are turned. -/
def Flip (b0 : List Bool) (i : Nat) (bs : List Bool) : Prop := bs.length = b0.length ∧ ∀ c, bs[c]? = if c < i then (b0[c]?).map (!·) else b0[c]?
theorem Flip.zero (b0 : List Bool) : Flip b0 0 b0 := ⟨rfl, fun c => by simp⟩
theorem Flip.step {b0 bs : List Bool} {i : Nat} (h : Flip b0 i bs) (hi : i < b0.length) {b : Bool} (hb : bs[i]? = some b) : Flip b0 (i + 1) (bs.set i (!b)) := by
  refine ⟨by simpa using h.1, fun c => ?_⟩
  by_cases e : i = c
  · subst e
    rw [List.getElem?_set_self (by rw [h.1]; exact hi), if_pos (by omega)]
    have := h.2 i
    rw [if_neg (by omega), hb] at this
    rw [← this]; rfl
  · rw [List.getElem?_set_ne e, h.2 c]
    by_cases hc : c < i
    · rw [if_pos hc, if_pos (by omega)]
    · rw [if_neg hc, if_neg (by omega)]
theorem Flip.sees {b0 bs : List Bool} {P : Nat → Bool} (h : Flip b0 256 bs) (hs : Sees P b0) : Sees (fun c => !P c) bs := ⟨h.1.trans hs.1, fun c hc => by rw [h.2 c, if_pos hc, hs.2 c hc]; rfl⟩

/-- What class has done. -/
def CRes (g : Nat) (s : ByteArray) (deep : Int) (w : World) (r : Except Nat (Rx × Nat)) (e : Ending) (w' : World) : Prop :=
  Chg (· = g) w w' ∧ ∃ (h : Nat), e = .returned (.agg #[.string ⟨#[98, 121, 116, 101]⟩, .slice (some ⟨h, 0, none⟩) 256 256, .slice none 0 0]) ∧ w.heap.size ≤ h ∧ match r with
  | .ok (x, j) => ∃ bs P, Bools w' h bs ∧ Sees P bs ∧ x = .byte P ∧ RS w' g s (j : Nat) deep 0 ∧ j ≤ s.size
  | .error er => er = 27 ∧ ∃ a : Nat, RS w' g s (a : Nat) deep er ∧ a ≤ s.size + 2

theorem chg_res {g : Nat} {w wo wm : World} (h1 : Chg (· = g) w wo) (h2 : Chg (· = g) wo wm) (x y z : Value) : Chg (· = g) w (((wm.setCell ⟨w.heap.size, 0, none⟩ x).setCell ⟨w.heap.size, 1, none⟩ y).setCell ⟨w.heap.size, 2, none⟩ z) :=
  (((h1.trans h2).setCell (p := ⟨w.heap.size, 0, none⟩) (.inr (Nat.le_refl _)) x).setCell (p := ⟨w.heap.size, 1, none⟩) (.inr (Nat.le_refl _)) y).setCell (p := ⟨w.heap.size, 2, none⟩) (.inr (Nat.le_refl _)) z
theorem cres_ok {g : Nat} {s : ByteArray} {deep : Int} {w wo wm : World} {bs : List Bool} {P : Nat → Bool} {j : Nat} {x y z : Value} (hg : g < w.heap.size) (h1 : Chg (· = g) w wo) (h2 : Chg (· = g) wo wm) (hz : w.heap.size + 1 + 1 < wo.heap.size)
    (hb : Bools wo (w.heap.size + 1) bs) (hS : Sees P bs) (hp : RS wm g s (j : Nat) deep 0) (hj : j ≤ s.size) :
    CRes g s deep w (.ok (.byte P, j)) (.returned (.agg #[.string ⟨#[98, 121, 116, 101]⟩, .slice (some ⟨w.heap.size + 1, 0, none⟩) 256 256, .slice none 0 0])) (((wm.setCell ⟨w.heap.size, 0, none⟩ x).setCell ⟨w.heap.size, 1, none⟩ y).setCell ⟨w.heap.size, 2, none⟩ z) :=
  ⟨chg_res h1 h2 x y z, _, rfl, by omega, bs, P, blk_set_far (blk_set_far (blk_set_far (hb.chg h2 (by omega)) (by simp) _) (by simp) _) (by simp) _, hS, rfl, ((hp.far (by simp; omega) _).far (by simp; omega) _).far (by simp; omega) _, hj⟩
theorem cres_err {g : Nat} {s : ByteArray} {deep : Int} {w wo wm : World} {a : Nat} {x y z : Value} (hg : g < w.heap.size) (h1 : Chg (· = g) w wo) (h2 : Chg (· = g) wo wm) (hz : w.heap.size + 1 + 1 < wo.heap.size)
    (hp : RS wm g s (a : Nat) deep 27) (ha : a ≤ s.size + 2) :
    CRes g s deep w (.error 27) (.returned (.agg #[.string ⟨#[98, 121, 116, 101]⟩, .slice (some ⟨w.heap.size + 1, 0, none⟩) 256 256, .slice none 0 0])) (((wm.setCell ⟨w.heap.size, 0, none⟩ x).setCell ⟨w.heap.size, 1, none⟩ y).setCell ⟨w.heap.size, 2, none⟩ z) :=
  ⟨chg_res h1 h2 x y z, _, rfl, by omega, rfl, a, ((hp.far (by simp; omega) _).far (by simp; omega) _).far (by simp; omega) _, ha⟩
/-- next, and the reader as it was. -/
theorem next_calls2 (g : Nat) (s : ByteArray) (i : Nat) (deep bad : Int) (w : World) (hs : s.size ≤ 64) (hp : RS w g s i deep bad) :
    Calls Tryd.prog 51 #[.pointer (some ⟨g, 0, none⟩)] w fun e w' => e = .returned (.int .i64 (nx s i)) ∧ (∃ n, w' = w.drewN n) ∧ RS w g s i deep bad :=
  (next_calls g s i deep bad w hs hp).mono fun _ _ ⟨h1, h2⟩ => ⟨h1, h2, hp⟩

/-- The state at the head of a class's loop. -/
def CI (g h : Nat) (s : ByteArray) (deep : Int) (w : World) (R : Except Nat ((Nat → Bool) × Nat)) (k m : Nat) (bs : List Bool) (wr : World) : Prop :=
  (∃ (j : Nat) (P : Nat → Bool), RS wr g s (j : Nat) deep 0 ∧ j ≤ s.size ∧ Sees P bs ∧ s.size < j + k ∧ cLoop (bys s) k (decide (m = 0)) j P = R) ∨ (∃ a : Nat, RS wr g s (a : Nat) deep 27 ∧ a ≤ s.size ∧ R = .error 27 ∧ bs.length = 256)

set_option maxRecDepth 100000 in
set_option maxHeartbeats 8000000 in
theorem class_no (g : Nat) (s : ByteArray) (i : Nat) (deep : Int) (w : World) (hs : s.size ≤ 64) (hi : i ≤ s.size) (hp : RS w g s i deep 0) (hneg : ¬ (bys s)[i]? = some 94) :
    Calls Tryd.prog 72 #[.pointer (some ⟨g, 0, none⟩)] w (CRes g s deep w (Rx.clsOf false (Rx.pItems (bys s) (s.size + 1) i (fun _ => false)))) := by
  obtain ⟨i0, hinf, hz0, hz1, hz2⟩ := info_parts Tryd.infoBool
  have hby : i0.bytes * 256 ≤ 281474976710656 := by rw [hz2]; omega
  have h94 : (nx s i == 94) = false := (nx_eq s i 94).trans (decide_eq_false hneg)
  have hg := hp.lt
  have hgz : g < w.heap.size := hg
  clear hneg
  obtain ⟨R, hR⟩ : ∃ R, Rx.pItems (bys s) (s.size + 1) i (fun _ => false) = R := ⟨_, rfl⟩
  have HR := Lib.hid hR
  rw [hR]
  clear hR
  go_enter Tryd.func72, Tryd.ntmps72
  go_wp2_with (first | (at_make; refine wpList_make_row _ rfl (.const (.int .i64 256)) (.const (.int .i64 256)) 47 rfl 4 i0 (.bool false) Tryd.underlying47 hinf hz0 hz1 rfl .i64 .i64 256 rfl rfl hby (by omega) ?_) | (go_at_call 51; ((refine (next_calls2 g s i deep 0 _ hs (((hp.alloc _).alloc _).alloc _)).mono ?_); rintro e w1 ⟨rfl, ⟨n, rfl⟩, hpA⟩; have pA1 := hpA.c1; have pAf := hpA.f 1)))
  go_loopg [5] (s.size + 1) (fun k u5 wr => ∃ (m : Nat) (bs : List Bool), u5 = .int .i64 (m : Int) ∧ m + k = s.size + 1 ∧ NX wr (w.heap.size + 1 + 1) ⟨#[98, 121, 116, 101]⟩ (.slice (some ⟨w.heap.size + 1, 0, none⟩) 256 256) (.slice none 0 0) ∧ NX wr w.heap.size ⟨#[]⟩ (.slice none 0 0) (.slice none 0 0) ∧ Bools wr (w.heap.size + 1) bs ∧ Hid (Chg (· = g) w wr) ∧ CI g (w.heap.size + 1) s deep w R k m bs wr)
  case atStart => exact ⟨0, List.replicate 256 false, rfl, by omega, (show NX (World.drewN _ n) _ _ _ _ from blk_new' _ _ _ (by simp)), blk_alloc (blk_alloc (blk_new w _) _) _, made1 w _ _, Lib.hid ((((((Chg.refl (· = g) w).alloc _).alloc _).alloc _).drewN n)), .inl ⟨i, fun _ => false, ((((hp.alloc _).alloc _).alloc _).drewN n), hi, ⟨List.length_replicate, fun c hc => by rw [List.getElem?_replicate, if_pos hc]⟩, by omega, HR.out⟩⟩
  case round =>
    obtain ⟨m, bs, rfl, hmk, hn, hr, hb, hch, hci⟩ := hrel
    obtain ⟨wo, rfl⟩ : ∃ m : World, m = wr := ⟨_, rfl⟩
    obtain ⟨gk0, rfl⟩ : ∃ m : Nat, m = gk := ⟨_, rfl⟩
    clear hp HR
    have hzo := hch.out.size
    have hgN : ¬ (w.heap.size + 1 + 1) = g := by omega
    have hgH : ¬ (w.heap.size + 1) = g := by omega
    have hgR : ¬ w.heap.size = g := by omega
    rcases hci with ⟨j, P, hp, hj, hS, hsz, hL⟩ | ⟨a, hp, ha, hL, hbl⟩
    · have HS := Lib.hid hS
      have HL := Lib.hid hL
      have hpl := Lib.hid hp
      have c1 := hp.c1
      have c3 := hp.c3
      have f1 := hp.f 1
      clear hS hL
      by_cases hst : m ≠ 0 ∧ (bys s)[j]? = some 93
      · obtain ⟨hm, h93⟩ := hst
        have hjs : j < s.size := by have := (List.getElem?_eq_some_iff.1 h93).1; rwa [bys_len] at this
        have hm0 : ((m : Int) == 0) = false := by simp; omega
        have hL2 := HL.out
        unfold cLoop at hL2
        rw [if_neg (by simpa using hm), if_pos h93] at hL2
        have e93 : (nx s j == 93) = true := (nx_eq s j 93).trans (decide_eq_true h93)
        have HL2 := Lib.hid hL2
        clear hL2 HL hm h93
        go_wp2_with (go_at_call 51; ((refine (next_calls g s j deep 0 _ hs (by first | exact hpl.out | exact hpl.out.drewN _)).mono ?_); rintro e w1 ⟨rfl, n1, rfl⟩))
        have hzo2 : w.heap.size + 1 + 1 < wo.heap.size := hn.lt
        have hgR2 : ¬ g = w.heap.size := fun h => hgR h.symm
        have hbl256 : bs.length = 256 := HS.out.1
        have v0 := hn.c0
        have v1 := hn.c1
        have v2 := hn.c2
        have r0 := hr.c0
        have r1 := hr.c1
        have r2 := hr.c2
        have g0 := hr.f 0
        have g1 := hr.f 1
        have g2 := hr.f 2
        refine wp_loop_rounds 1 ?_
        rw [rounds_succ]
        go_wp2
        refine bodyPost_ret (v := .agg #[.string ⟨#[98, 121, 116, 101]⟩, .slice (some ⟨w.heap.size + 1, 0, none⟩) 256 256, .slice none 0 0]) (by simp [results, Tryd.results72, go_sem, r0, r1, r2, hgR, hgR2]) rfl ?_
        rw [← HL2.out]
        exact cres_ok hgz hch.out (by repeat (first | exact Chg.refl _ _ | with_reducible apply Chg.drewN | with_reducible apply Chg.setG | with_reducible refine Chg.trans ?_ hc4 | with_reducible refine Chg.trans ?_ hc3 | with_reducible refine Chg.trans ?_ hc2)) hzo2 hb HS.out (by first | exact ((hpl.out.set1 _).cast (by omega)) | exact (((hpl.out.drewN _).set1 _).cast (by omega))) (by omega)
      · have hgo : ((m : Int) == 0) = true ∨ (((m : Int) == 0) = false ∧ (nx s j == 93) = false) := by
          by_cases hm : m = 0
          · left; subst hm; rfl
          · right; exact ⟨by simp; omega, (nx_eq s j 93).trans (decide_eq_false (fun h => hst ⟨hm, h⟩))⟩
        obtain ⟨k0, rfl⟩ : ∃ m : Nat, m + 1 = gk0 := ⟨gk0 - 1, by omega⟩
        have hL2 : Rx.pItems (bys s) (k0 + 1) j P = R := by
          have := HL.out
          unfold cLoop at this
          by_cases hm : m = 0
          · rw [if_pos (by simpa using hm)] at this; exact this
          · rw [if_neg (by simpa using hm), if_neg (fun h => hst ⟨hm, h⟩)] at this; exact this
        rw [pItems_step] at hL2
        have HL2 := Lib.hid hL2
        clear hL2 HL hst
        have hmk2 : (m : Int) + 1 ≤ 100 := by omega
        cases h1 : Rx.pOne (bys s) j with
        | error er =>
          have HE : Hid (R = .error 27) := Lib.hid (by rw [← HL2.out]; simp only [Rx.pItem, h1]; rw [pOne_err h1])
          have H1 := Lib.hid h1
          clear h1 HL2
          rcases hgo with hm0 | ⟨hm0, e93⟩
          all_goals
            go_wp2_with (first | (go_at_call 51; (fail_if_success (have := hc1)); ((refine (next_calls g s j deep 0 _ hs (by exact hpl.out)).mono ?_); rintro e w1 ⟨rfl, n1, rfl⟩)) | (go_at_call 76; ((refine (item_err g s j deep _ hs hj (by first | exact hpl.out | exact hpl.out.drewN _) H1.out).mono ?_); rintro e w2 ⟨a, rfl, hp2, ha2, hc2⟩; have b3 := hp2.c3)))
            refine wp_loop_rounds 1 ?_
            rw [rounds_succ]
            go_wp2
            go_roundg k0
            case measure => omega
            case rel => exact ⟨m + 1, bs, by go_num, by omega, hn.chg (M := (· = g)) (by repeat (first | exact Chg.refl _ _ | with_reducible apply Chg.drewN | with_reducible apply Chg.setG | with_reducible refine Chg.trans ?_ hc4 | with_reducible refine Chg.trans ?_ hc3 | with_reducible refine Chg.trans ?_ hc2)) hgN, hr.chg (M := (· = g)) (by repeat (first | exact Chg.refl _ _ | with_reducible apply Chg.drewN | with_reducible apply Chg.setG | with_reducible refine Chg.trans ?_ hc4 | with_reducible refine Chg.trans ?_ hc3 | with_reducible refine Chg.trans ?_ hc2)) hgR, hb.chg (M := (· = g)) (by repeat (first | exact Chg.refl _ _ | with_reducible apply Chg.drewN | with_reducible apply Chg.setG | with_reducible refine Chg.trans ?_ hc4 | with_reducible refine Chg.trans ?_ hc3 | with_reducible refine Chg.trans ?_ hc2)) hgH, Lib.hid (hch.out.trans (by repeat (first | exact Chg.refl _ _ | with_reducible apply Chg.drewN | with_reducible apply Chg.setG | with_reducible refine Chg.trans ?_ hc4 | with_reducible refine Chg.trans ?_ hc3 | with_reducible refine Chg.trans ?_ hc2))), .inr ⟨a, hp2, ha2, HE.out, HS.out.1⟩⟩
        | ok x1 =>
          obtain ⟨lo, j1⟩ := x1
          have H1 := Lib.hid h1
          have hlo := (pOne_lt h1).1
          have hj1 := (pOne_lt h1).2.2
          by_cases h45 : (bys s)[j1]? = some 45
          · have hj1s : j1 < s.size := by have := (List.getElem?_eq_some_iff.1 h45).1; rwa [bys_len] at this
            have e45 : (nx s j1 == 45) = true := (nx_eq s j1 45).trans (decide_eq_true h45)
            cases h2 : Rx.pOne (bys s) (j1 + 1) with
            | error er =>
              have HE : Hid (R = .error 27) := Lib.hid (by rw [← HL2.out]; simp only [Rx.pItem, h1, if_pos h45, h2]; rw [pOne_err h2])
              have H2 := Lib.hid h2
              clear h1 h2 h45 HL2
              rcases hgo with hm0 | ⟨hm0, e93⟩
              all_goals
                go_wp2_with (first | (go_at_call 51; (fail_if_success (have := hc2)); ((refine (next_calls g s j deep 0 _ hs (by exact hpl.out)).mono ?_); rintro e w1 ⟨rfl, n1, rfl⟩)) | (go_at_call 76; (fail_if_success (have := hc2)); ((refine (item_ok g s j deep _ hs hj (by first | exact hpl.out | exact hpl.out.drewN _) H1.out).mono ?_); rintro e w2 ⟨rfl, hp2, -, -, hc2⟩; have b1 := hp2.c1; have b3 := hp2.c3; have bf := hp2.f 1)) | (go_at_call 51; ((refine (next_calls g s j1 deep 0 _ hs (by exact hp2)).mono ?_); rintro e w9 ⟨rfl, n2, rfl⟩)) | (go_at_call 76; ((refine (item_err g s (j1 + 1) deep _ hs (by omega) (by exact (((hp2.drewN _).set1 _).cast (by omega))) H2.out).mono ?_); rintro e w3 ⟨a, rfl, hp3, ha3, hc3⟩; have b3 := hp3.c3)))
                refine wp_loop_rounds 1 ?_
                rw [rounds_succ]
                by_cases hl0 : lo = 0
                · subst hl0
                  go_wp2
                  go_roundg k0
                  case measure => omega
                  case rel => exact ⟨m + 1, bs, by go_num, by omega, hn.chg (M := (· = g)) (by repeat (first | exact Chg.refl _ _ | with_reducible apply Chg.drewN | with_reducible apply Chg.setG | with_reducible refine Chg.trans ?_ hc4 | with_reducible refine Chg.trans ?_ hc3 | with_reducible refine Chg.trans ?_ hc2)) hgN, hr.chg (M := (· = g)) (by repeat (first | exact Chg.refl _ _ | with_reducible apply Chg.drewN | with_reducible apply Chg.setG | with_reducible refine Chg.trans ?_ hc4 | with_reducible refine Chg.trans ?_ hc3 | with_reducible refine Chg.trans ?_ hc2)) hgR, hb.chg (M := (· = g)) (by repeat (first | exact Chg.refl _ _ | with_reducible apply Chg.drewN | with_reducible apply Chg.setG | with_reducible refine Chg.trans ?_ hc4 | with_reducible refine Chg.trans ?_ hc3 | with_reducible refine Chg.trans ?_ hc2)) hgH, Lib.hid (hch.out.trans (by repeat (first | exact Chg.refl _ _ | with_reducible apply Chg.drewN | with_reducible apply Chg.setG | with_reducible refine Chg.trans ?_ hc4 | with_reducible refine Chg.trans ?_ hc3 | with_reducible refine Chg.trans ?_ hc2))), .inr ⟨a, hp3, ha3, HE.out, HS.out.1⟩⟩
                · have hle : decide ((lo : Int) ≤ 0) = false := decide_eq_false (by omega)
                  go_wp2
                  go_roundg k0
                  case measure => omega
                  case rel => exact ⟨m + 1, bs, by go_num, by omega, hn.chg (M := (· = g)) (by repeat (first | exact Chg.refl _ _ | with_reducible apply Chg.drewN | with_reducible apply Chg.setG | with_reducible refine Chg.trans ?_ hc4 | with_reducible refine Chg.trans ?_ hc3 | with_reducible refine Chg.trans ?_ hc2)) hgN, hr.chg (M := (· = g)) (by repeat (first | exact Chg.refl _ _ | with_reducible apply Chg.drewN | with_reducible apply Chg.setG | with_reducible refine Chg.trans ?_ hc4 | with_reducible refine Chg.trans ?_ hc3 | with_reducible refine Chg.trans ?_ hc2)) hgR, hb.chg (M := (· = g)) (by repeat (first | exact Chg.refl _ _ | with_reducible apply Chg.drewN | with_reducible apply Chg.setG | with_reducible refine Chg.trans ?_ hc4 | with_reducible refine Chg.trans ?_ hc3 | with_reducible refine Chg.trans ?_ hc2)) hgH, Lib.hid (hch.out.trans (by repeat (first | exact Chg.refl _ _ | with_reducible apply Chg.drewN | with_reducible apply Chg.setG | with_reducible refine Chg.trans ?_ hc4 | with_reducible refine Chg.trans ?_ hc3 | with_reducible refine Chg.trans ?_ hc2))), .inr ⟨a, hp3, ha3, HE.out, HS.out.1⟩⟩
            | ok x2 =>
              obtain ⟨hi_, j2⟩ := x2
              have H2 := Lib.hid h2
              have hhi := (pOne_lt h2).1
              have hj2 := (pOne_lt h2).2.2
              by_cases hlt : hi_ < lo
              · have HE : Hid (R = .error 27) := Lib.hid (by rw [← HL2.out]; simp only [Rx.pItem, h1, if_pos h45, h2, if_pos hlt])
                have hlt1 : decide (hi_ < lo) = true := decide_eq_true hlt
                have hle : decide (lo ≤ hi_) = false := decide_eq_false (by omega)
                clear h1 h2 h45 HL2 hlt
                rcases hgo with hm0 | ⟨hm0, e93⟩
                all_goals
                  go_wp2_with (first | (go_at_call 51; (fail_if_success (have := hc2)); ((refine (next_calls g s j deep 0 _ hs (by exact hpl.out)).mono ?_); rintro e w1 ⟨rfl, n1, rfl⟩)) | (go_at_call 76; (fail_if_success (have := hc2)); ((refine (item_ok g s j deep _ hs hj (by first | exact hpl.out | exact hpl.out.drewN _) H1.out).mono ?_); rintro e w2 ⟨rfl, hp2, -, -, hc2⟩; have b1 := hp2.c1; have b3 := hp2.c3; have bf := hp2.f 1)) | (go_at_call 51; ((refine (next_calls g s j1 deep 0 _ hs (by exact hp2)).mono ?_); rintro e w9 ⟨rfl, n2, rfl⟩)) | (go_at_call 76; ((refine (item_ok g s (j1 + 1) deep _ hs (by omega) (by exact (((hp2.drewN _).set1 _).cast (by omega))) H2.out).mono ?_); rintro e w3 ⟨rfl, hp3, -, -, hc3⟩; have d3 := hp3.c3)) | (go_at_call 33; ((refine (wrong_calls g s j2 deep 27 _ (by exact hp3)).mono ?_); rintro e w4 ⟨rfl, hp4, hc4, hz4⟩)))
                  refine wp_loop_rounds 1 ?_
                  rw [rounds_succ]
                  go_wp2
                  go_roundg k0
                  case measure => omega
                  case rel => exact ⟨m + 1, bs, by go_num, by omega, hn.chg (M := (· = g)) (by repeat (first | exact Chg.refl _ _ | with_reducible apply Chg.drewN | with_reducible apply Chg.setG | with_reducible refine Chg.trans ?_ hc4 | with_reducible refine Chg.trans ?_ hc3 | with_reducible refine Chg.trans ?_ hc2)) hgN, hr.chg (M := (· = g)) (by repeat (first | exact Chg.refl _ _ | with_reducible apply Chg.drewN | with_reducible apply Chg.setG | with_reducible refine Chg.trans ?_ hc4 | with_reducible refine Chg.trans ?_ hc3 | with_reducible refine Chg.trans ?_ hc2)) hgR, hb.chg (M := (· = g)) (by repeat (first | exact Chg.refl _ _ | with_reducible apply Chg.drewN | with_reducible apply Chg.setG | with_reducible refine Chg.trans ?_ hc4 | with_reducible refine Chg.trans ?_ hc3 | with_reducible refine Chg.trans ?_ hc2)) hgH, Lib.hid (hch.out.trans (by repeat (first | exact Chg.refl _ _ | with_reducible apply Chg.drewN | with_reducible apply Chg.setG | with_reducible refine Chg.trans ?_ hc4 | with_reducible refine Chg.trans ?_ hc3 | with_reducible refine Chg.trans ?_ hc2))), .inr ⟨j2, hp4, hj2, HE.out, HS.out.1⟩⟩
              · have hL3 : cLoop (bys s) k0 false j2 (fun c => P c || (decide (lo ≤ c) && decide (c ≤ hi_))) = R := by rw [← HL2.out]; simp only [Rx.pItem, h1, if_pos h45, h2, if_neg hlt]
                have HL3 := Lib.hid hL3
                have hlt1 : decide (hi_ < lo) = false := decide_eq_false hlt
                have hj12 := (pOne_lt h1).2.1
                have hj22 := (pOne_lt h2).2.1
                clear h1 h2 h45 HL2 hL3
                rcases hgo with hm0 | ⟨hm0, e93⟩
                all_goals
                  go_wp2_with (first | (go_at_call 51; (fail_if_success (have := hc2)); ((refine (next_calls g s j deep 0 _ hs (by exact hpl.out)).mono ?_); rintro e w1 ⟨rfl, n1, rfl⟩)) | (go_at_call 76; (fail_if_success (have := hc2)); ((refine (item_ok g s j deep _ hs hj (by first | exact hpl.out | exact hpl.out.drewN _) H1.out).mono ?_); rintro e w2 ⟨rfl, hp2, -, -, hc2⟩; have b1 := hp2.c1; have b3 := hp2.c3; have bf := hp2.f 1)) | (go_at_call 51; ((refine (next_calls g s j1 deep 0 _ hs (by exact hp2)).mono ?_); rintro e w9 ⟨rfl, n2, rfl⟩)) | (go_at_call 76; ((refine (item_ok g s (j1 + 1) deep _ hs (by omega) (by exact (((hp2.drewN _).set1 _).cast (by omega))) H2.out).mono ?_); rintro e w3 ⟨rfl, hp3, -, -, hc3⟩; have d3 := hp3.c3)))
                  go_loopg [8] (hi_ + 2 - lo) (fun k u8 wr => ∃ (x : Nat) (bs' : List Bool), u8 = .int .i64 (x : Int) ∧ x + k = hi_ + 2 ∧ lo ≤ x ∧ x ≤ hi_ + 1 ∧ NX wr (w.heap.size + 1 + 1) ⟨#[98, 121, 116, 101]⟩ (.slice (some ⟨w.heap.size + 1, 0, none⟩) 256 256) (.slice none 0 0) ∧ NX wr w.heap.size ⟨#[]⟩ (.slice none 0 0) (.slice none 0 0) ∧ Bools wr (w.heap.size + 1) bs' ∧ Hid (Chg (· = g) w wr) ∧ Hid (Sees (fun y => P y || (decide (lo ≤ y) && decide (y < x))) bs') ∧ RS wr g s (j2 : Nat) deep 0)
                  case atStart => exact ⟨lo, bs, rfl, by omega, Nat.le_refl _, by omega, hn.chg (M := (· = g)) (by repeat (first | exact Chg.refl _ _ | with_reducible apply Chg.drewN | with_reducible apply Chg.setG | with_reducible refine Chg.trans ?_ hc4 | with_reducible refine Chg.trans ?_ hc3 | with_reducible refine Chg.trans ?_ hc2)) hgN, hr.chg (M := (· = g)) (by repeat (first | exact Chg.refl _ _ | with_reducible apply Chg.drewN | with_reducible apply Chg.setG | with_reducible refine Chg.trans ?_ hc4 | with_reducible refine Chg.trans ?_ hc3 | with_reducible refine Chg.trans ?_ hc2)) hgR, hb.chg (M := (· = g)) (by repeat (first | exact Chg.refl _ _ | with_reducible apply Chg.drewN | with_reducible apply Chg.setG | with_reducible refine Chg.trans ?_ hc4 | with_reducible refine Chg.trans ?_ hc3 | with_reducible refine Chg.trans ?_ hc2)) hgH, Lib.hid (hch.out.trans (by repeat (first | exact Chg.refl _ _ | with_reducible apply Chg.drewN | with_reducible apply Chg.setG | with_reducible refine Chg.trans ?_ hc4 | with_reducible refine Chg.trans ?_ hc3 | with_reducible refine Chg.trans ?_ hc2))), Lib.hid (HS.out.start lo), (by first | exact hp3 | exact hp3.drewN _)⟩
                  case round =>
                    obtain ⟨x, bs', rfl, hxk, hlx, hxh, hn4, hr4, hb4, hc4, hS4, hp4⟩ := hrel
                    obtain ⟨wi, rfl⟩ : ∃ m : World, m = wr := ⟨_, rfl⟩
                    obtain ⟨k4, rfl⟩ : ∃ m : Nat, m = gk := ⟨_, rfl⟩
                    have z3 := hp4.c3
                    have zn := hn4.c1
                    by_cases hx : x ≤ hi_
                    · have hx1 : decide (x ≤ hi_) = true := decide_eq_true hx
                      have hx256 : x < 256 := by omega
                      obtain ⟨b0, hb0⟩ : ∃ b0, bs'[x]? = some b0 := ⟨_, hS4.out.2 x hx256⟩
                      have hcb := hb4.c hb0
                      have hfb : wi.frozen? ⟨w.heap.size + 1, x, none⟩ = false := blk_free hb4
                      have hx3 : (0 : Int) ≤ (x : Int) := by omega
                      have hx4 : (x : Int) < 256 := by omega
                      clear hb0
                      go_wp2
                      go_roundg (k4 - 1)
                      case measure => omega
                      case rel => exact ⟨x + 1, _, by go_num, by omega, by omega, by omega, hn4.far (by simp) _, hr4.far (by simp) _, hb4.set x true, Lib.hid (hc4.out.setCell (.inr (by simp)) _), Lib.hid (hS4.out.step hlx hx256), hp4.far (by simp; omega) _⟩
                    · have hx1 : decide (x ≤ hi_) = false := decide_eq_false hx
                      go_wp2
                      go_roundg k0
                      case measure => omega
                      case rel => exact ⟨m + 1, bs', by go_num, by omega, hn4, hr4, hb4, hc4, .inl ⟨j2, _, hp4, by omega, hS4.out.close (by omega), by omega, HL3.out⟩⟩
          · have e45 : (nx s j1 == 45) = false := (nx_eq s j1 45).trans (decide_eq_false h45)
            have hL3 : cLoop (bys s) k0 false j1 (fun c => P c || (decide (lo ≤ c) && decide (c ≤ lo))) = R := by rw [← HL2.out]; simp only [Rx.pItem, h1, if_neg h45]
            have HL3 := Lib.hid hL3
            have hlt1 : decide (lo < lo) = false := decide_eq_false (by omega)
            have hlt2 : decide ((lo : Int) < (lo : Int)) = false := decide_eq_false (by omega)
            have hj12 := (pOne_lt h1).2.1
            have hlt : ¬ lo < lo := by omega
            have hhi := hlo
            clear h1 h45 HL2 hL3
            rcases hgo with hm0 | ⟨hm0, e93⟩
            all_goals
              go_wp2_with (first | (go_at_call 51; (fail_if_success (have := hc2)); ((refine (next_calls g s j deep 0 _ hs (by exact hpl.out)).mono ?_); rintro e w1 ⟨rfl, n1, rfl⟩)) | (go_at_call 76; (fail_if_success (have := hc2)); ((refine (item_ok g s j deep _ hs hj (by first | exact hpl.out | exact hpl.out.drewN _) H1.out).mono ?_); rintro e w2 ⟨rfl, hp2, -, -, hc2⟩; have b1 := hp2.c1; have b3 := hp2.c3; have bf := hp2.f 1)) | (go_at_call 51; ((refine (next_calls g s j1 deep 0 _ hs (by exact hp2)).mono ?_); rintro e w9 ⟨rfl, n2, rfl⟩)))
              have hp3 := hp2
              go_loopg [8] (lo + 2 - lo) (fun k u8 wr => ∃ (x : Nat) (bs' : List Bool), u8 = .int .i64 (x : Int) ∧ x + k = lo + 2 ∧ lo ≤ x ∧ x ≤ lo + 1 ∧ NX wr (w.heap.size + 1 + 1) ⟨#[98, 121, 116, 101]⟩ (.slice (some ⟨w.heap.size + 1, 0, none⟩) 256 256) (.slice none 0 0) ∧ NX wr w.heap.size ⟨#[]⟩ (.slice none 0 0) (.slice none 0 0) ∧ Bools wr (w.heap.size + 1) bs' ∧ Hid (Chg (· = g) w wr) ∧ Hid (Sees (fun y => P y || (decide (lo ≤ y) && decide (y < x))) bs') ∧ RS wr g s (j1 : Nat) deep 0)
              case atStart => exact ⟨lo, bs, rfl, by omega, Nat.le_refl _, by omega, hn.chg (M := (· = g)) (by repeat (first | exact Chg.refl _ _ | with_reducible apply Chg.drewN | with_reducible apply Chg.setG | with_reducible refine Chg.trans ?_ hc4 | with_reducible refine Chg.trans ?_ hc3 | with_reducible refine Chg.trans ?_ hc2)) hgN, hr.chg (M := (· = g)) (by repeat (first | exact Chg.refl _ _ | with_reducible apply Chg.drewN | with_reducible apply Chg.setG | with_reducible refine Chg.trans ?_ hc4 | with_reducible refine Chg.trans ?_ hc3 | with_reducible refine Chg.trans ?_ hc2)) hgR, hb.chg (M := (· = g)) (by repeat (first | exact Chg.refl _ _ | with_reducible apply Chg.drewN | with_reducible apply Chg.setG | with_reducible refine Chg.trans ?_ hc4 | with_reducible refine Chg.trans ?_ hc3 | with_reducible refine Chg.trans ?_ hc2)) hgH, Lib.hid (hch.out.trans (by repeat (first | exact Chg.refl _ _ | with_reducible apply Chg.drewN | with_reducible apply Chg.setG | with_reducible refine Chg.trans ?_ hc4 | with_reducible refine Chg.trans ?_ hc3 | with_reducible refine Chg.trans ?_ hc2))), Lib.hid (HS.out.start lo), (by first | exact hp2 | exact hp2.drewN _)⟩
              case round =>
                obtain ⟨x, bs', rfl, hxk, hlx, hxh, hn4, hr4, hb4, hc4, hS4, hp4⟩ := hrel
                obtain ⟨wi, rfl⟩ : ∃ m : World, m = wr := ⟨_, rfl⟩
                obtain ⟨k4, rfl⟩ : ∃ m : Nat, m = gk := ⟨_, rfl⟩
                have z3 := hp4.c3
                have zn := hn4.c1
                by_cases hx : x ≤ lo
                · have hx1 : decide (x ≤ lo) = true := decide_eq_true hx
                  have hx256 : x < 256 := by omega
                  obtain ⟨b0, hb0⟩ : ∃ b0, bs'[x]? = some b0 := ⟨_, hS4.out.2 x hx256⟩
                  have hcb := hb4.c hb0
                  have hfb : wi.frozen? ⟨w.heap.size + 1, x, none⟩ = false := blk_free hb4
                  have hx3 : (0 : Int) ≤ (x : Int) := by omega
                  have hx4 : (x : Int) < 256 := by omega
                  clear hb0
                  go_wp2
                  go_roundg (k4 - 1)
                  case measure => omega
                  case rel => exact ⟨x + 1, _, by go_num, by omega, by omega, by omega, hn4.far (by simp) _, hr4.far (by simp) _, hb4.set x true, Lib.hid (hc4.out.setCell (.inr (by simp)) _), Lib.hid (hS4.out.step hlx hx256), hp4.far (by simp; omega) _⟩
                · have hx1 : decide (x ≤ lo) = false := decide_eq_false hx
                  go_wp2
                  go_roundg k0
                  case measure => omega
                  case rel => exact ⟨m + 1, bs', by go_num, by omega, hn4, hr4, hb4, hc4, .inl ⟨j1, _, hp4, by omega, hS4.out.close (by omega), by omega, HL3.out⟩⟩
    · have hpl := Lib.hid hp
      have c3 := hp.c3
      have c1 := hp.c1
      have f1 := hp.f 1
      have HE := Lib.hid hL
      clear hL
      go_wp2
      have hzo2 : w.heap.size + 1 + 1 < wo.heap.size := hn.lt
      have hgR2 : ¬ g = w.heap.size := fun h => hgR h.symm
      have hbl256 : bs.length = 256 := hbl
      have v0 := hn.c0
      have v1 := hn.c1
      have v2 := hn.c2
      have r0 := hr.c0
      have r1 := hr.c1
      have r2 := hr.c2
      have g0 := hr.f 0
      have g1 := hr.f 1
      have g2 := hr.f 2
      refine wp_loop_rounds 1 ?_
      rw [rounds_succ]
      go_wp2
      refine bodyPost_ret (v := .agg #[.string ⟨#[98, 121, 116, 101]⟩, .slice (some ⟨w.heap.size + 1, 0, none⟩) 256 256, .slice none 0 0]) (by simp [results, Tryd.results72, go_sem, r0, r1, r2, hgR, hgR2]) rfl ?_
      rw [HE.out]
      exact cres_err hgz hch.out (by repeat (first | exact Chg.refl _ _ | with_reducible apply Chg.drewN | with_reducible apply Chg.setG | with_reducible refine Chg.trans ?_ hc4 | with_reducible refine Chg.trans ?_ hc3 | with_reducible refine Chg.trans ?_ hc2)) hzo2 (a := a + 1) (by first | exact ((hpl.out.set1 _).cast (by omega)) | exact (((hpl.out.drewN _).set1 _).cast (by omega))) (by omega)

set_option maxRecDepth 100000 in
set_option maxHeartbeats 8000000 in
theorem class_yes (g : Nat) (s : ByteArray) (i : Nat) (deep : Int) (w : World) (hs : s.size ≤ 64) (hi : i ≤ s.size) (hp : RS w g s i deep 0) (hneg : (bys s)[i]? = some 94) :
    Calls Tryd.prog 72 #[.pointer (some ⟨g, 0, none⟩)] w (CRes g s deep w (Rx.clsOf true (Rx.pItems (bys s) (s.size + 1) (i + 1) (fun _ => false)))) := by
  obtain ⟨i0, hinf, hz0, hz1, hz2⟩ := info_parts Tryd.infoBool
  have hby : i0.bytes * 256 ≤ 281474976710656 := by rw [hz2]; omega
  have h94 : (nx s i == 94) = true := (nx_eq s i 94).trans (decide_eq_true hneg)
  have hg := hp.lt
  have hgz : g < w.heap.size := hg
  have hi2 : i < s.size := by have := (List.getElem?_eq_some_iff.1 hneg).1; rwa [bys_len] at this
  have p1 := hp.c1
  have pf1 := hp.f 1
  clear hneg
  obtain ⟨R, hR⟩ : ∃ R, Rx.pItems (bys s) (s.size + 1) (i + 1) (fun _ => false) = R := ⟨_, rfl⟩
  have HR := Lib.hid hR
  rw [hR]
  clear hR
  go_enter Tryd.func72, Tryd.ntmps72
  go_wp2_with (first | (at_make; refine wpList_make_row _ rfl (.const (.int .i64 256)) (.const (.int .i64 256)) 47 rfl 4 i0 (.bool false) Tryd.underlying47 hinf hz0 hz1 rfl .i64 .i64 256 rfl rfl hby (by omega) ?_) | (go_at_call 51; ((refine (next_calls2 g s i deep 0 _ hs (((hp.alloc _).alloc _).alloc _)).mono ?_); rintro e w1 ⟨rfl, ⟨n, rfl⟩, hpA⟩; have pA1 := hpA.c1; have pAf := hpA.f 1)))
  go_loopg [5] (s.size + 1) (fun k u5 wr => ∃ (m : Nat) (bs : List Bool), u5 = .int .i64 (m : Int) ∧ m + k = s.size + 1 ∧ NX wr (w.heap.size + 1 + 1) ⟨#[98, 121, 116, 101]⟩ (.slice (some ⟨w.heap.size + 1, 0, none⟩) 256 256) (.slice none 0 0) ∧ NX wr w.heap.size ⟨#[]⟩ (.slice none 0 0) (.slice none 0 0) ∧ Bools wr (w.heap.size + 1) bs ∧ Hid (Chg (· = g) w wr) ∧ CI g (w.heap.size + 1) s deep w R k m bs wr)
  case atStart => exact ⟨0, List.replicate 256 false, rfl, by omega, NX.chg (M := (· = g)) (w := (((w.alloc (.cells #[.string ⟨#[]⟩, .slice none 0 0, .slice none 0 0] 50)).alloc (.cells (madeCells #[.bool false] 256) 4)).alloc (.cells #[.string ⟨#[98, 121, 116, 101]⟩, .slice (some ⟨w.heap.size + 1, 0, none⟩) 256 256, .slice none 0 0] 50))) (show NX (((w.alloc (.cells #[.string ⟨#[]⟩, .slice none 0 0, .slice none 0 0] 50)).alloc (.cells (madeCells #[.bool false] 256) 4)).alloc (.cells #[.string ⟨#[98, 121, 116, 101]⟩, .slice (some ⟨w.heap.size + 1, 0, none⟩) 256 256, .slice none 0 0] 50)) _ _ _ _ from blk_new' _ _ _ (by simp)) (by repeat (first | exact Chg.refl _ _ | with_reducible apply Chg.drewN | with_reducible apply Chg.setG | with_reducible refine Chg.trans ?_ hc4 | with_reducible refine Chg.trans ?_ hc3 | with_reducible refine Chg.trans ?_ hc2)) (by omega), NX.chg (M := (· = g)) (w := (((w.alloc (.cells #[.string ⟨#[]⟩, .slice none 0 0, .slice none 0 0] 50)).alloc (.cells (madeCells #[.bool false] 256) 4)).alloc (.cells #[.string ⟨#[98, 121, 116, 101]⟩, .slice (some ⟨w.heap.size + 1, 0, none⟩) 256 256, .slice none 0 0] 50))) (show NX (((w.alloc (.cells #[.string ⟨#[]⟩, .slice none 0 0, .slice none 0 0] 50)).alloc (.cells (madeCells #[.bool false] 256) 4)).alloc (.cells #[.string ⟨#[98, 121, 116, 101]⟩, .slice (some ⟨w.heap.size + 1, 0, none⟩) 256 256, .slice none 0 0] 50)) _ _ _ _ from blk_alloc (blk_alloc (blk_new w _) _) _) (by repeat (first | exact Chg.refl _ _ | with_reducible apply Chg.drewN | with_reducible apply Chg.setG | with_reducible refine Chg.trans ?_ hc4 | with_reducible refine Chg.trans ?_ hc3 | with_reducible refine Chg.trans ?_ hc2)) (by omega), Bools.chg (M := (· = g)) (w := (((w.alloc (.cells #[.string ⟨#[]⟩, .slice none 0 0, .slice none 0 0] 50)).alloc (.cells (madeCells #[.bool false] 256) 4)).alloc (.cells #[.string ⟨#[98, 121, 116, 101]⟩, .slice (some ⟨w.heap.size + 1, 0, none⟩) 256 256, .slice none 0 0] 50))) (made1 w _ _) (by repeat (first | exact Chg.refl _ _ | with_reducible apply Chg.drewN | with_reducible apply Chg.setG | with_reducible refine Chg.trans ?_ hc4 | with_reducible refine Chg.trans ?_ hc3 | with_reducible refine Chg.trans ?_ hc2)) (by omega), Lib.hid ((((((Chg.refl (· = g) w).alloc _).alloc _).alloc _).drewN n).setCell (p := ⟨g, 1, none⟩) (.inl rfl) _), .inl ⟨i + 1, fun _ => false, (((((hp.alloc _).alloc _).alloc _).drewN n).set1 _).cast (by omega), by omega, ⟨List.length_replicate, fun c hc => by rw [List.getElem?_replicate, if_pos hc]⟩, by omega, HR.out⟩⟩
  case round =>
    obtain ⟨m, bs, rfl, hmk, hn, hr, hb, hch, hci⟩ := hrel
    obtain ⟨wo, rfl⟩ : ∃ m : World, m = wr := ⟨_, rfl⟩
    obtain ⟨gk0, rfl⟩ : ∃ m : Nat, m = gk := ⟨_, rfl⟩
    clear hp HR
    have hzo := hch.out.size
    have hgN : ¬ (w.heap.size + 1 + 1) = g := by omega
    have hgH : ¬ (w.heap.size + 1) = g := by omega
    have hgR : ¬ w.heap.size = g := by omega
    rcases hci with ⟨j, P, hp, hj, hS, hsz, hL⟩ | ⟨a, hp, ha, hL, hbl⟩
    · have HS := Lib.hid hS
      have HL := Lib.hid hL
      have hpl := Lib.hid hp
      have c1 := hp.c1
      have c3 := hp.c3
      have f1 := hp.f 1
      clear hS hL
      by_cases hst : m ≠ 0 ∧ (bys s)[j]? = some 93
      · obtain ⟨hm, h93⟩ := hst
        have hjs : j < s.size := by have := (List.getElem?_eq_some_iff.1 h93).1; rwa [bys_len] at this
        have hm0 : ((m : Int) == 0) = false := by simp; omega
        have hL2 := HL.out
        unfold cLoop at hL2
        rw [if_neg (by simpa using hm), if_pos h93] at hL2
        have e93 : (nx s j == 93) = true := (nx_eq s j 93).trans (decide_eq_true h93)
        have HL2 := Lib.hid hL2
        clear hL2 HL hm h93
        go_wp2_with (go_at_call 51; ((refine (next_calls g s j deep 0 _ hs (by first | exact hpl.out | exact hpl.out.drewN _)).mono ?_); rintro e w1 ⟨rfl, n1, rfl⟩))
        have hzo2 : w.heap.size + 1 + 1 < wo.heap.size := hn.lt
        have hgR2 : ¬ g = w.heap.size := fun h => hgR h.symm
        have hbl256 : bs.length = 256 := HS.out.1
        go_loopg [9] 257 (fun k u9 wr => ∃ (x : Nat) (bs' : List Bool), u9 = .int .i64 (x : Int) ∧ x + k = 257 ∧ x ≤ 256 ∧ NX wr (w.heap.size + 1 + 1) ⟨#[98, 121, 116, 101]⟩ (.slice (some ⟨w.heap.size + 1, 0, none⟩) 256 256) (.slice none 0 0) ∧ NX wr w.heap.size ⟨#[]⟩ (.slice none 0 0) (.slice none 0 0) ∧ Bools wr (w.heap.size + 1) bs' ∧ Hid (Chg (· = g) w wr) ∧ Hid (Flip bs x bs') ∧ RS wr g s (j + 1 : Nat) deep 0)
        case atStart => exact ⟨0, bs, rfl, by omega, by omega, hn.chg (M := (· = g)) (by repeat (first | exact Chg.refl _ _ | with_reducible apply Chg.drewN | with_reducible apply Chg.setG | with_reducible refine Chg.trans ?_ hc4 | with_reducible refine Chg.trans ?_ hc3 | with_reducible refine Chg.trans ?_ hc2)) hgN, hr.chg (M := (· = g)) (by repeat (first | exact Chg.refl _ _ | with_reducible apply Chg.drewN | with_reducible apply Chg.setG | with_reducible refine Chg.trans ?_ hc4 | with_reducible refine Chg.trans ?_ hc3 | with_reducible refine Chg.trans ?_ hc2)) hgR, hb.chg (M := (· = g)) (by repeat (first | exact Chg.refl _ _ | with_reducible apply Chg.drewN | with_reducible apply Chg.setG | with_reducible refine Chg.trans ?_ hc4 | with_reducible refine Chg.trans ?_ hc3 | with_reducible refine Chg.trans ?_ hc2)) hgH, Lib.hid (hch.out.trans (by repeat (first | exact Chg.refl _ _ | with_reducible apply Chg.drewN | with_reducible apply Chg.setG | with_reducible refine Chg.trans ?_ hc4 | with_reducible refine Chg.trans ?_ hc3 | with_reducible refine Chg.trans ?_ hc2))), Lib.hid (Flip.zero bs), (by first | exact ((hpl.out.set1 _).cast (by omega)) | exact (((hpl.out.drewN _).set1 _).cast (by omega)))⟩
        case round =>
          obtain ⟨x, bs', rfl, hxk, hxh, hn4, hr4, hb4, hc4, hF4, hp4⟩ := hrel
          obtain ⟨wi, rfl⟩ : ∃ m : World, m = wr := ⟨_, rfl⟩
          obtain ⟨k4, rfl⟩ : ∃ m : Nat, m = gk := ⟨_, rfl⟩
          have hzi : w.heap.size + 1 + 1 < wi.heap.size := hn4.lt
          by_cases hx : x < 256
          · have hx1 : decide ((x : Int) < 256) = true := decide_eq_true (by omega)
            obtain ⟨b0, hb0⟩ : ∃ b0, bs'[x]? = some b0 := ⟨_, List.getElem?_eq_getElem (by rw [hF4.out.1, hbl256]; exact hx)⟩
            have hcb := hb4.c hb0
            have zn := hn4.c1
            have hfb : wi.frozen? ⟨w.heap.size + 1, x, none⟩ = false := blk_free hb4
            have hx3 : (0 : Int) ≤ (x : Int) := by omega
            have hx4 : (x : Int) < 256 := by omega
            have HB0 := Lib.hid hb0
            clear hb0
            go_wp2
            go_region
            go_wp2
            go_roundg (k4 - 1)
            case measure => omega
            case rel => exact ⟨x + 1, _, by go_num, by omega, by omega, hn4.far (by simp) _, hr4.far (by simp) _, hb4.set x (!b0), Lib.hid ((hc4.out.setCell (.inr (by simp)) _).drew), Lib.hid (hF4.out.step (by rw [hbl256]; exact hx) HB0.out), hp4.far (by simp; omega) _⟩
          · have hx1 : decide ((x : Int) < 256) = false := decide_eq_false (by omega)
            obtain rfl : x = 256 := by omega
            have v0 := hn4.c0
            have v1 := hn4.c1
            have v2 := hn4.c2
            have r0 := hr4.c0
            have r1 := hr4.c1
            have r2 := hr4.c2
            have g0 := hr4.f 0
            have g1 := hr4.f 1
            have g2 := hr4.f 2
            go_wp2
            refine bodyPost_ret (v := .agg #[.string ⟨#[98, 121, 116, 101]⟩, .slice (some ⟨w.heap.size + 1, 0, none⟩) 256 256, .slice none 0 0]) (by simp [results, Tryd.results72, go_sem, r0, r1, r2, hgR, hgR2]) rfl ?_
            rw [← HL2.out]
            exact cres_ok hgz hc4.out (Chg.refl _ _) hzi hb4 (hF4.out.sees HS.out) hp4 (by omega)
      · have hgo : ((m : Int) == 0) = true ∨ (((m : Int) == 0) = false ∧ (nx s j == 93) = false) := by
          by_cases hm : m = 0
          · left; subst hm; rfl
          · right; exact ⟨by simp; omega, (nx_eq s j 93).trans (decide_eq_false (fun h => hst ⟨hm, h⟩))⟩
        obtain ⟨k0, rfl⟩ : ∃ m : Nat, m + 1 = gk0 := ⟨gk0 - 1, by omega⟩
        have hL2 : Rx.pItems (bys s) (k0 + 1) j P = R := by
          have := HL.out
          unfold cLoop at this
          by_cases hm : m = 0
          · rw [if_pos (by simpa using hm)] at this; exact this
          · rw [if_neg (by simpa using hm), if_neg (fun h => hst ⟨hm, h⟩)] at this; exact this
        rw [pItems_step] at hL2
        have HL2 := Lib.hid hL2
        clear hL2 HL hst
        have hmk2 : (m : Int) + 1 ≤ 100 := by omega
        cases h1 : Rx.pOne (bys s) j with
        | error er =>
          have HE : Hid (R = .error 27) := Lib.hid (by rw [← HL2.out]; simp only [Rx.pItem, h1]; rw [pOne_err h1])
          have H1 := Lib.hid h1
          clear h1 HL2
          rcases hgo with hm0 | ⟨hm0, e93⟩
          all_goals
            go_wp2_with (first | (go_at_call 51; (fail_if_success (have := hc1)); ((refine (next_calls g s j deep 0 _ hs (by exact hpl.out)).mono ?_); rintro e w1 ⟨rfl, n1, rfl⟩)) | (go_at_call 76; ((refine (item_err g s j deep _ hs hj (by first | exact hpl.out | exact hpl.out.drewN _) H1.out).mono ?_); rintro e w2 ⟨a, rfl, hp2, ha2, hc2⟩; have b3 := hp2.c3)))
            refine wp_loop_rounds 1 ?_
            rw [rounds_succ]
            go_wp2
            go_roundg k0
            case measure => omega
            case rel => exact ⟨m + 1, bs, by go_num, by omega, hn.chg (M := (· = g)) (by repeat (first | exact Chg.refl _ _ | with_reducible apply Chg.drewN | with_reducible apply Chg.setG | with_reducible refine Chg.trans ?_ hc4 | with_reducible refine Chg.trans ?_ hc3 | with_reducible refine Chg.trans ?_ hc2)) hgN, hr.chg (M := (· = g)) (by repeat (first | exact Chg.refl _ _ | with_reducible apply Chg.drewN | with_reducible apply Chg.setG | with_reducible refine Chg.trans ?_ hc4 | with_reducible refine Chg.trans ?_ hc3 | with_reducible refine Chg.trans ?_ hc2)) hgR, hb.chg (M := (· = g)) (by repeat (first | exact Chg.refl _ _ | with_reducible apply Chg.drewN | with_reducible apply Chg.setG | with_reducible refine Chg.trans ?_ hc4 | with_reducible refine Chg.trans ?_ hc3 | with_reducible refine Chg.trans ?_ hc2)) hgH, Lib.hid (hch.out.trans (by repeat (first | exact Chg.refl _ _ | with_reducible apply Chg.drewN | with_reducible apply Chg.setG | with_reducible refine Chg.trans ?_ hc4 | with_reducible refine Chg.trans ?_ hc3 | with_reducible refine Chg.trans ?_ hc2))), .inr ⟨a, hp2, ha2, HE.out, HS.out.1⟩⟩
        | ok x1 =>
          obtain ⟨lo, j1⟩ := x1
          have H1 := Lib.hid h1
          have hlo := (pOne_lt h1).1
          have hj1 := (pOne_lt h1).2.2
          by_cases h45 : (bys s)[j1]? = some 45
          · have hj1s : j1 < s.size := by have := (List.getElem?_eq_some_iff.1 h45).1; rwa [bys_len] at this
            have e45 : (nx s j1 == 45) = true := (nx_eq s j1 45).trans (decide_eq_true h45)
            cases h2 : Rx.pOne (bys s) (j1 + 1) with
            | error er =>
              have HE : Hid (R = .error 27) := Lib.hid (by rw [← HL2.out]; simp only [Rx.pItem, h1, if_pos h45, h2]; rw [pOne_err h2])
              have H2 := Lib.hid h2
              clear h1 h2 h45 HL2
              rcases hgo with hm0 | ⟨hm0, e93⟩
              all_goals
                go_wp2_with (first | (go_at_call 51; (fail_if_success (have := hc2)); ((refine (next_calls g s j deep 0 _ hs (by exact hpl.out)).mono ?_); rintro e w1 ⟨rfl, n1, rfl⟩)) | (go_at_call 76; (fail_if_success (have := hc2)); ((refine (item_ok g s j deep _ hs hj (by first | exact hpl.out | exact hpl.out.drewN _) H1.out).mono ?_); rintro e w2 ⟨rfl, hp2, -, -, hc2⟩; have b1 := hp2.c1; have b3 := hp2.c3; have bf := hp2.f 1)) | (go_at_call 51; ((refine (next_calls g s j1 deep 0 _ hs (by exact hp2)).mono ?_); rintro e w9 ⟨rfl, n2, rfl⟩)) | (go_at_call 76; ((refine (item_err g s (j1 + 1) deep _ hs (by omega) (by exact (((hp2.drewN _).set1 _).cast (by omega))) H2.out).mono ?_); rintro e w3 ⟨a, rfl, hp3, ha3, hc3⟩; have b3 := hp3.c3)))
                refine wp_loop_rounds 1 ?_
                rw [rounds_succ]
                by_cases hl0 : lo = 0
                · subst hl0
                  go_wp2
                  go_roundg k0
                  case measure => omega
                  case rel => exact ⟨m + 1, bs, by go_num, by omega, hn.chg (M := (· = g)) (by repeat (first | exact Chg.refl _ _ | with_reducible apply Chg.drewN | with_reducible apply Chg.setG | with_reducible refine Chg.trans ?_ hc4 | with_reducible refine Chg.trans ?_ hc3 | with_reducible refine Chg.trans ?_ hc2)) hgN, hr.chg (M := (· = g)) (by repeat (first | exact Chg.refl _ _ | with_reducible apply Chg.drewN | with_reducible apply Chg.setG | with_reducible refine Chg.trans ?_ hc4 | with_reducible refine Chg.trans ?_ hc3 | with_reducible refine Chg.trans ?_ hc2)) hgR, hb.chg (M := (· = g)) (by repeat (first | exact Chg.refl _ _ | with_reducible apply Chg.drewN | with_reducible apply Chg.setG | with_reducible refine Chg.trans ?_ hc4 | with_reducible refine Chg.trans ?_ hc3 | with_reducible refine Chg.trans ?_ hc2)) hgH, Lib.hid (hch.out.trans (by repeat (first | exact Chg.refl _ _ | with_reducible apply Chg.drewN | with_reducible apply Chg.setG | with_reducible refine Chg.trans ?_ hc4 | with_reducible refine Chg.trans ?_ hc3 | with_reducible refine Chg.trans ?_ hc2))), .inr ⟨a, hp3, ha3, HE.out, HS.out.1⟩⟩
                · have hle : decide ((lo : Int) ≤ 0) = false := decide_eq_false (by omega)
                  go_wp2
                  go_roundg k0
                  case measure => omega
                  case rel => exact ⟨m + 1, bs, by go_num, by omega, hn.chg (M := (· = g)) (by repeat (first | exact Chg.refl _ _ | with_reducible apply Chg.drewN | with_reducible apply Chg.setG | with_reducible refine Chg.trans ?_ hc4 | with_reducible refine Chg.trans ?_ hc3 | with_reducible refine Chg.trans ?_ hc2)) hgN, hr.chg (M := (· = g)) (by repeat (first | exact Chg.refl _ _ | with_reducible apply Chg.drewN | with_reducible apply Chg.setG | with_reducible refine Chg.trans ?_ hc4 | with_reducible refine Chg.trans ?_ hc3 | with_reducible refine Chg.trans ?_ hc2)) hgR, hb.chg (M := (· = g)) (by repeat (first | exact Chg.refl _ _ | with_reducible apply Chg.drewN | with_reducible apply Chg.setG | with_reducible refine Chg.trans ?_ hc4 | with_reducible refine Chg.trans ?_ hc3 | with_reducible refine Chg.trans ?_ hc2)) hgH, Lib.hid (hch.out.trans (by repeat (first | exact Chg.refl _ _ | with_reducible apply Chg.drewN | with_reducible apply Chg.setG | with_reducible refine Chg.trans ?_ hc4 | with_reducible refine Chg.trans ?_ hc3 | with_reducible refine Chg.trans ?_ hc2))), .inr ⟨a, hp3, ha3, HE.out, HS.out.1⟩⟩
            | ok x2 =>
              obtain ⟨hi_, j2⟩ := x2
              have H2 := Lib.hid h2
              have hhi := (pOne_lt h2).1
              have hj2 := (pOne_lt h2).2.2
              by_cases hlt : hi_ < lo
              · have HE : Hid (R = .error 27) := Lib.hid (by rw [← HL2.out]; simp only [Rx.pItem, h1, if_pos h45, h2, if_pos hlt])
                have hlt1 : decide (hi_ < lo) = true := decide_eq_true hlt
                have hle : decide (lo ≤ hi_) = false := decide_eq_false (by omega)
                clear h1 h2 h45 HL2 hlt
                rcases hgo with hm0 | ⟨hm0, e93⟩
                all_goals
                  go_wp2_with (first | (go_at_call 51; (fail_if_success (have := hc2)); ((refine (next_calls g s j deep 0 _ hs (by exact hpl.out)).mono ?_); rintro e w1 ⟨rfl, n1, rfl⟩)) | (go_at_call 76; (fail_if_success (have := hc2)); ((refine (item_ok g s j deep _ hs hj (by first | exact hpl.out | exact hpl.out.drewN _) H1.out).mono ?_); rintro e w2 ⟨rfl, hp2, -, -, hc2⟩; have b1 := hp2.c1; have b3 := hp2.c3; have bf := hp2.f 1)) | (go_at_call 51; ((refine (next_calls g s j1 deep 0 _ hs (by exact hp2)).mono ?_); rintro e w9 ⟨rfl, n2, rfl⟩)) | (go_at_call 76; ((refine (item_ok g s (j1 + 1) deep _ hs (by omega) (by exact (((hp2.drewN _).set1 _).cast (by omega))) H2.out).mono ?_); rintro e w3 ⟨rfl, hp3, -, -, hc3⟩; have d3 := hp3.c3)) | (go_at_call 33; ((refine (wrong_calls g s j2 deep 27 _ (by exact hp3)).mono ?_); rintro e w4 ⟨rfl, hp4, hc4, hz4⟩)))
                  refine wp_loop_rounds 1 ?_
                  rw [rounds_succ]
                  go_wp2
                  go_roundg k0
                  case measure => omega
                  case rel => exact ⟨m + 1, bs, by go_num, by omega, hn.chg (M := (· = g)) (by repeat (first | exact Chg.refl _ _ | with_reducible apply Chg.drewN | with_reducible apply Chg.setG | with_reducible refine Chg.trans ?_ hc4 | with_reducible refine Chg.trans ?_ hc3 | with_reducible refine Chg.trans ?_ hc2)) hgN, hr.chg (M := (· = g)) (by repeat (first | exact Chg.refl _ _ | with_reducible apply Chg.drewN | with_reducible apply Chg.setG | with_reducible refine Chg.trans ?_ hc4 | with_reducible refine Chg.trans ?_ hc3 | with_reducible refine Chg.trans ?_ hc2)) hgR, hb.chg (M := (· = g)) (by repeat (first | exact Chg.refl _ _ | with_reducible apply Chg.drewN | with_reducible apply Chg.setG | with_reducible refine Chg.trans ?_ hc4 | with_reducible refine Chg.trans ?_ hc3 | with_reducible refine Chg.trans ?_ hc2)) hgH, Lib.hid (hch.out.trans (by repeat (first | exact Chg.refl _ _ | with_reducible apply Chg.drewN | with_reducible apply Chg.setG | with_reducible refine Chg.trans ?_ hc4 | with_reducible refine Chg.trans ?_ hc3 | with_reducible refine Chg.trans ?_ hc2))), .inr ⟨j2, hp4, hj2, HE.out, HS.out.1⟩⟩
              · have hL3 : cLoop (bys s) k0 false j2 (fun c => P c || (decide (lo ≤ c) && decide (c ≤ hi_))) = R := by rw [← HL2.out]; simp only [Rx.pItem, h1, if_pos h45, h2, if_neg hlt]
                have HL3 := Lib.hid hL3
                have hlt1 : decide (hi_ < lo) = false := decide_eq_false hlt
                have hj12 := (pOne_lt h1).2.1
                have hj22 := (pOne_lt h2).2.1
                clear h1 h2 h45 HL2 hL3
                rcases hgo with hm0 | ⟨hm0, e93⟩
                all_goals
                  go_wp2_with (first | (go_at_call 51; (fail_if_success (have := hc2)); ((refine (next_calls g s j deep 0 _ hs (by exact hpl.out)).mono ?_); rintro e w1 ⟨rfl, n1, rfl⟩)) | (go_at_call 76; (fail_if_success (have := hc2)); ((refine (item_ok g s j deep _ hs hj (by first | exact hpl.out | exact hpl.out.drewN _) H1.out).mono ?_); rintro e w2 ⟨rfl, hp2, -, -, hc2⟩; have b1 := hp2.c1; have b3 := hp2.c3; have bf := hp2.f 1)) | (go_at_call 51; ((refine (next_calls g s j1 deep 0 _ hs (by exact hp2)).mono ?_); rintro e w9 ⟨rfl, n2, rfl⟩)) | (go_at_call 76; ((refine (item_ok g s (j1 + 1) deep _ hs (by omega) (by exact (((hp2.drewN _).set1 _).cast (by omega))) H2.out).mono ?_); rintro e w3 ⟨rfl, hp3, -, -, hc3⟩; have d3 := hp3.c3)))
                  go_loopg [8] (hi_ + 2 - lo) (fun k u8 wr => ∃ (x : Nat) (bs' : List Bool), u8 = .int .i64 (x : Int) ∧ x + k = hi_ + 2 ∧ lo ≤ x ∧ x ≤ hi_ + 1 ∧ NX wr (w.heap.size + 1 + 1) ⟨#[98, 121, 116, 101]⟩ (.slice (some ⟨w.heap.size + 1, 0, none⟩) 256 256) (.slice none 0 0) ∧ NX wr w.heap.size ⟨#[]⟩ (.slice none 0 0) (.slice none 0 0) ∧ Bools wr (w.heap.size + 1) bs' ∧ Hid (Chg (· = g) w wr) ∧ Hid (Sees (fun y => P y || (decide (lo ≤ y) && decide (y < x))) bs') ∧ RS wr g s (j2 : Nat) deep 0)
                  case atStart => exact ⟨lo, bs, rfl, by omega, Nat.le_refl _, by omega, hn.chg (M := (· = g)) (by repeat (first | exact Chg.refl _ _ | with_reducible apply Chg.drewN | with_reducible apply Chg.setG | with_reducible refine Chg.trans ?_ hc4 | with_reducible refine Chg.trans ?_ hc3 | with_reducible refine Chg.trans ?_ hc2)) hgN, hr.chg (M := (· = g)) (by repeat (first | exact Chg.refl _ _ | with_reducible apply Chg.drewN | with_reducible apply Chg.setG | with_reducible refine Chg.trans ?_ hc4 | with_reducible refine Chg.trans ?_ hc3 | with_reducible refine Chg.trans ?_ hc2)) hgR, hb.chg (M := (· = g)) (by repeat (first | exact Chg.refl _ _ | with_reducible apply Chg.drewN | with_reducible apply Chg.setG | with_reducible refine Chg.trans ?_ hc4 | with_reducible refine Chg.trans ?_ hc3 | with_reducible refine Chg.trans ?_ hc2)) hgH, Lib.hid (hch.out.trans (by repeat (first | exact Chg.refl _ _ | with_reducible apply Chg.drewN | with_reducible apply Chg.setG | with_reducible refine Chg.trans ?_ hc4 | with_reducible refine Chg.trans ?_ hc3 | with_reducible refine Chg.trans ?_ hc2))), Lib.hid (HS.out.start lo), (by first | exact hp3 | exact hp3.drewN _)⟩
                  case round =>
                    obtain ⟨x, bs', rfl, hxk, hlx, hxh, hn4, hr4, hb4, hc4, hS4, hp4⟩ := hrel
                    obtain ⟨wi, rfl⟩ : ∃ m : World, m = wr := ⟨_, rfl⟩
                    obtain ⟨k4, rfl⟩ : ∃ m : Nat, m = gk := ⟨_, rfl⟩
                    have z3 := hp4.c3
                    have zn := hn4.c1
                    by_cases hx : x ≤ hi_
                    · have hx1 : decide (x ≤ hi_) = true := decide_eq_true hx
                      have hx256 : x < 256 := by omega
                      obtain ⟨b0, hb0⟩ : ∃ b0, bs'[x]? = some b0 := ⟨_, hS4.out.2 x hx256⟩
                      have hcb := hb4.c hb0
                      have hfb : wi.frozen? ⟨w.heap.size + 1, x, none⟩ = false := blk_free hb4
                      have hx3 : (0 : Int) ≤ (x : Int) := by omega
                      have hx4 : (x : Int) < 256 := by omega
                      clear hb0
                      go_wp2
                      go_roundg (k4 - 1)
                      case measure => omega
                      case rel => exact ⟨x + 1, _, by go_num, by omega, by omega, by omega, hn4.far (by simp) _, hr4.far (by simp) _, hb4.set x true, Lib.hid (hc4.out.setCell (.inr (by simp)) _), Lib.hid (hS4.out.step hlx hx256), hp4.far (by simp; omega) _⟩
                    · have hx1 : decide (x ≤ hi_) = false := decide_eq_false hx
                      go_wp2
                      go_roundg k0
                      case measure => omega
                      case rel => exact ⟨m + 1, bs', by go_num, by omega, hn4, hr4, hb4, hc4, .inl ⟨j2, _, hp4, by omega, hS4.out.close (by omega), by omega, HL3.out⟩⟩
          · have e45 : (nx s j1 == 45) = false := (nx_eq s j1 45).trans (decide_eq_false h45)
            have hL3 : cLoop (bys s) k0 false j1 (fun c => P c || (decide (lo ≤ c) && decide (c ≤ lo))) = R := by rw [← HL2.out]; simp only [Rx.pItem, h1, if_neg h45]
            have HL3 := Lib.hid hL3
            have hlt1 : decide (lo < lo) = false := decide_eq_false (by omega)
            have hlt2 : decide ((lo : Int) < (lo : Int)) = false := decide_eq_false (by omega)
            have hj12 := (pOne_lt h1).2.1
            have hlt : ¬ lo < lo := by omega
            have hhi := hlo
            clear h1 h45 HL2 hL3
            rcases hgo with hm0 | ⟨hm0, e93⟩
            all_goals
              go_wp2_with (first | (go_at_call 51; (fail_if_success (have := hc2)); ((refine (next_calls g s j deep 0 _ hs (by exact hpl.out)).mono ?_); rintro e w1 ⟨rfl, n1, rfl⟩)) | (go_at_call 76; (fail_if_success (have := hc2)); ((refine (item_ok g s j deep _ hs hj (by first | exact hpl.out | exact hpl.out.drewN _) H1.out).mono ?_); rintro e w2 ⟨rfl, hp2, -, -, hc2⟩; have b1 := hp2.c1; have b3 := hp2.c3; have bf := hp2.f 1)) | (go_at_call 51; ((refine (next_calls g s j1 deep 0 _ hs (by exact hp2)).mono ?_); rintro e w9 ⟨rfl, n2, rfl⟩)))
              have hp3 := hp2
              go_loopg [8] (lo + 2 - lo) (fun k u8 wr => ∃ (x : Nat) (bs' : List Bool), u8 = .int .i64 (x : Int) ∧ x + k = lo + 2 ∧ lo ≤ x ∧ x ≤ lo + 1 ∧ NX wr (w.heap.size + 1 + 1) ⟨#[98, 121, 116, 101]⟩ (.slice (some ⟨w.heap.size + 1, 0, none⟩) 256 256) (.slice none 0 0) ∧ NX wr w.heap.size ⟨#[]⟩ (.slice none 0 0) (.slice none 0 0) ∧ Bools wr (w.heap.size + 1) bs' ∧ Hid (Chg (· = g) w wr) ∧ Hid (Sees (fun y => P y || (decide (lo ≤ y) && decide (y < x))) bs') ∧ RS wr g s (j1 : Nat) deep 0)
              case atStart => exact ⟨lo, bs, rfl, by omega, Nat.le_refl _, by omega, hn.chg (M := (· = g)) (by repeat (first | exact Chg.refl _ _ | with_reducible apply Chg.drewN | with_reducible apply Chg.setG | with_reducible refine Chg.trans ?_ hc4 | with_reducible refine Chg.trans ?_ hc3 | with_reducible refine Chg.trans ?_ hc2)) hgN, hr.chg (M := (· = g)) (by repeat (first | exact Chg.refl _ _ | with_reducible apply Chg.drewN | with_reducible apply Chg.setG | with_reducible refine Chg.trans ?_ hc4 | with_reducible refine Chg.trans ?_ hc3 | with_reducible refine Chg.trans ?_ hc2)) hgR, hb.chg (M := (· = g)) (by repeat (first | exact Chg.refl _ _ | with_reducible apply Chg.drewN | with_reducible apply Chg.setG | with_reducible refine Chg.trans ?_ hc4 | with_reducible refine Chg.trans ?_ hc3 | with_reducible refine Chg.trans ?_ hc2)) hgH, Lib.hid (hch.out.trans (by repeat (first | exact Chg.refl _ _ | with_reducible apply Chg.drewN | with_reducible apply Chg.setG | with_reducible refine Chg.trans ?_ hc4 | with_reducible refine Chg.trans ?_ hc3 | with_reducible refine Chg.trans ?_ hc2))), Lib.hid (HS.out.start lo), (by first | exact hp2 | exact hp2.drewN _)⟩
              case round =>
                obtain ⟨x, bs', rfl, hxk, hlx, hxh, hn4, hr4, hb4, hc4, hS4, hp4⟩ := hrel
                obtain ⟨wi, rfl⟩ : ∃ m : World, m = wr := ⟨_, rfl⟩
                obtain ⟨k4, rfl⟩ : ∃ m : Nat, m = gk := ⟨_, rfl⟩
                have z3 := hp4.c3
                have zn := hn4.c1
                by_cases hx : x ≤ lo
                · have hx1 : decide (x ≤ lo) = true := decide_eq_true hx
                  have hx256 : x < 256 := by omega
                  obtain ⟨b0, hb0⟩ : ∃ b0, bs'[x]? = some b0 := ⟨_, hS4.out.2 x hx256⟩
                  have hcb := hb4.c hb0
                  have hfb : wi.frozen? ⟨w.heap.size + 1, x, none⟩ = false := blk_free hb4
                  have hx3 : (0 : Int) ≤ (x : Int) := by omega
                  have hx4 : (x : Int) < 256 := by omega
                  clear hb0
                  go_wp2
                  go_roundg (k4 - 1)
                  case measure => omega
                  case rel => exact ⟨x + 1, _, by go_num, by omega, by omega, by omega, hn4.far (by simp) _, hr4.far (by simp) _, hb4.set x true, Lib.hid (hc4.out.setCell (.inr (by simp)) _), Lib.hid (hS4.out.step hlx hx256), hp4.far (by simp; omega) _⟩
                · have hx1 : decide (x ≤ lo) = false := decide_eq_false hx
                  go_wp2
                  go_roundg k0
                  case measure => omega
                  case rel => exact ⟨m + 1, bs', by go_num, by omega, hn4, hr4, hb4, hc4, .inl ⟨j1, _, hp4, by omega, hS4.out.close (by omega), by omega, HL3.out⟩⟩
    · have hpl := Lib.hid hp
      have c3 := hp.c3
      have c1 := hp.c1
      have f1 := hp.f 1
      have HE := Lib.hid hL
      clear hL
      go_wp2
      have hzo2 : w.heap.size + 1 + 1 < wo.heap.size := hn.lt
      have hgR2 : ¬ g = w.heap.size := fun h => hgR h.symm
      have hbl256 : bs.length = 256 := hbl
      go_loopg [9] 257 (fun k u9 wr => ∃ (x : Nat) (bs' : List Bool), u9 = .int .i64 (x : Int) ∧ x + k = 257 ∧ x ≤ 256 ∧ NX wr (w.heap.size + 1 + 1) ⟨#[98, 121, 116, 101]⟩ (.slice (some ⟨w.heap.size + 1, 0, none⟩) 256 256) (.slice none 0 0) ∧ NX wr w.heap.size ⟨#[]⟩ (.slice none 0 0) (.slice none 0 0) ∧ Bools wr (w.heap.size + 1) bs' ∧ Hid (Chg (· = g) w wr) ∧ Hid (Flip bs x bs') ∧ RS wr g s (a + 1 : Nat) deep 27)
      case atStart => exact ⟨0, bs, rfl, by omega, by omega, hn.chg (M := (· = g)) (by repeat (first | exact Chg.refl _ _ | with_reducible apply Chg.drewN | with_reducible apply Chg.setG | with_reducible refine Chg.trans ?_ hc4 | with_reducible refine Chg.trans ?_ hc3 | with_reducible refine Chg.trans ?_ hc2)) hgN, hr.chg (M := (· = g)) (by repeat (first | exact Chg.refl _ _ | with_reducible apply Chg.drewN | with_reducible apply Chg.setG | with_reducible refine Chg.trans ?_ hc4 | with_reducible refine Chg.trans ?_ hc3 | with_reducible refine Chg.trans ?_ hc2)) hgR, hb.chg (M := (· = g)) (by repeat (first | exact Chg.refl _ _ | with_reducible apply Chg.drewN | with_reducible apply Chg.setG | with_reducible refine Chg.trans ?_ hc4 | with_reducible refine Chg.trans ?_ hc3 | with_reducible refine Chg.trans ?_ hc2)) hgH, Lib.hid (hch.out.trans (by repeat (first | exact Chg.refl _ _ | with_reducible apply Chg.drewN | with_reducible apply Chg.setG | with_reducible refine Chg.trans ?_ hc4 | with_reducible refine Chg.trans ?_ hc3 | with_reducible refine Chg.trans ?_ hc2))), Lib.hid (Flip.zero bs), (by first | exact ((hpl.out.set1 _).cast (by omega)) | exact (((hpl.out.drewN _).set1 _).cast (by omega)))⟩
      case round =>
        obtain ⟨x, bs', rfl, hxk, hxh, hn4, hr4, hb4, hc4, hF4, hp4⟩ := hrel
        obtain ⟨wi, rfl⟩ : ∃ m : World, m = wr := ⟨_, rfl⟩
        obtain ⟨k4, rfl⟩ : ∃ m : Nat, m = gk := ⟨_, rfl⟩
        have hzi : w.heap.size + 1 + 1 < wi.heap.size := hn4.lt
        by_cases hx : x < 256
        · have hx1 : decide ((x : Int) < 256) = true := decide_eq_true (by omega)
          obtain ⟨b0, hb0⟩ : ∃ b0, bs'[x]? = some b0 := ⟨_, List.getElem?_eq_getElem (by rw [hF4.out.1, hbl256]; exact hx)⟩
          have hcb := hb4.c hb0
          have zn := hn4.c1
          have hfb : wi.frozen? ⟨w.heap.size + 1, x, none⟩ = false := blk_free hb4
          have hx3 : (0 : Int) ≤ (x : Int) := by omega
          have hx4 : (x : Int) < 256 := by omega
          have HB0 := Lib.hid hb0
          clear hb0
          go_wp2
          go_region
          go_wp2
          go_roundg (k4 - 1)
          case measure => omega
          case rel => exact ⟨x + 1, _, by go_num, by omega, by omega, hn4.far (by simp) _, hr4.far (by simp) _, hb4.set x (!b0), Lib.hid ((hc4.out.setCell (.inr (by simp)) _).drew), Lib.hid (hF4.out.step (by rw [hbl256]; exact hx) HB0.out), hp4.far (by simp; omega) _⟩
        · have hx1 : decide ((x : Int) < 256) = false := decide_eq_false (by omega)
          obtain rfl : x = 256 := by omega
          have v0 := hn4.c0
          have v1 := hn4.c1
          have v2 := hn4.c2
          have r0 := hr4.c0
          have r1 := hr4.c1
          have r2 := hr4.c2
          have g0 := hr4.f 0
          have g1 := hr4.f 1
          have g2 := hr4.f 2
          go_wp2
          refine bodyPost_ret (v := .agg #[.string ⟨#[98, 121, 116, 101]⟩, .slice (some ⟨w.heap.size + 1, 0, none⟩) 256 256, .slice none 0 0]) (by simp [results, Tryd.results72, go_sem, r0, r1, r2, hgR, hgR2]) rfl ?_
          rw [HE.out]
          exact cres_err hgz hc4.out (Chg.refl _ _) hzi (a := a + 1) hp4 (by omega)
end Go.Proofs.YtmlmnckhiianhaaDoor
