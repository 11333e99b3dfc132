/- The document's matcher, walked: rows and bars. -/
import Derived.Test.YtaaonhaighdlaaaRfK
namespace Go.Proofs.Ytaaonhaighdlaaa
open Go.RowKit
set_option linter.unusedVariables false
set_option linter.unusedSimpArgs false

/-- A node's parts, one by one. -/
theorem NV.inv_kids {w : World} {S : Nat → Prop} {K : ByteArray} {h : Value} {A2 : Option Addr} {m2 c2 : Nat} {x : Rx} (hv : NV w S (K, h, .slice A2 m2 c2) x) : m2 = (kidsOf x).length ∧ ∀ (i : Nat) (y : Rx), (kidsOf x)[i]? = some y →
    ∃ (g : Nat) (Ku : ByteArray) (B1 B2 : Option Addr) (n1 d1 n2 d2 : Nat), A2 = some ⟨g, 0, none⟩ ∧ w.rangeAt g (i * 3) [.string Ku, .slice B1 n1 d1, .slice B2 n2 d2] ∧ NV w S (Ku, .slice B1 n1 d1, .slice B2 n2 d2) y := by
  generalize hu : (K, h, Value.slice A2 m2 c2) = u at hv
  cases hv with
  | mk x' h' k' us h1 k1 hb hl hv hk =>
    injection hu with e1 e2
    injection e2 with e3 e4
    rcases hv with ⟨e5, e6⟩ | ⟨g, c, cs, e5, hS, hc, hcs, hi⟩
    · rw [e5] at e4
      injection e4 with e7 e8 e9
      subst e6
      refine ⟨by rw [← hl, e8]; rfl, fun i y hy => ?_⟩
      have := (List.getElem?_eq_some_iff.1 hy).1
      rw [← hl] at this
      simp at this
    · rw [e5] at e4
      injection e4 with e7 e8 e9
      refine ⟨by rw [← hl, e8], fun i y hy => ?_⟩
      have hil := (List.getElem?_eq_some_iff.1 hy).1
      rw [← hl] at hil
      obtain ⟨⟨Ku, hu', ku'⟩, hui⟩ : ∃ u, us[i]? = some u := ⟨_, List.getElem?_eq_getElem hil⟩
      have hn := hk i _ y hui hy
      obtain ⟨B1, n1, d1, f1⟩ := hn.one.2.1
      obtain ⟨B2, n2, d2, f2⟩ := hn.one.2.2
      simp only at f1 f2
      subst f1; subst f2
      obtain ⟨a0, a1, a2⟩ := hi i _ hui
      refine ⟨g, Ku, B1, B2, n1, d1, n2, d2, e7, ?_, hn⟩
      intro j v hj
      have ec : ∀ o, w.cell? ⟨g, o, none⟩ = cs[o]? := fun o => blk_cell hcs
      rw [ec]
      match j, hj with
      | 0, hj => simp at hj; subst hj; rw [Nat.add_zero, Nat.mul_comm]; exact a0
      | 1, hj => simp at hj; subst hj; rw [Nat.mul_comm]; exact a1
      | 2, hj => simp at hj; subst hj; rw [Nat.mul_comm]; exact a2
theorem NV.up {w w' : World} {u : Tr} {x : Rx} (h : NV w (fun _ => True) u x) (hb : Below w.heap.size w w') : NV w' (fun _ => True) u x := h.frame fun k hk _ => ⟨hb.block k hk, trivial⟩

set_option maxRecDepth 100000 in
set_option maxHeartbeats 4000000 in
theorem ends_row (s : ByteArray) (hs : s.size ≤ 64) (l : List Rx) (hll : l.length ≤ 100000) (hl : ∀ y, y ∈ l → EOk s y) : EOk s (.row l) := by
  intro K A1 A2 A3 m1 c1 m2 c2 m3 c3 F w hv hf
  obtain ⟨i0, hinf, hz0, hz1, hz2⟩ := info_parts Try.infoBool
  have hby : i0.bytes * (s.size + 1) ≤ 281474976710656 := by rw [hz2]; omega
  have hK : K = ⟨#[114, 111, 119]⟩ := hv.one.1
  subst hK
  have hm2 : m2 = l.length := hv.inv_kids.1
  subst hm2
  have HV := Lib.hid hv
  have HF := Lib.hid hf
  have HL := Lib.hid hl
  clear hv hf hl
  go_enter Try.func27, Try.ntmps27
  go_wp2_with (at_make; refine wpList_make_row _ rfl (.tmp 17) (.tmp 17) 37 rfl 4 i0 (.bool false) Try.underlying37 hinf hz0 hz1 rfl .i64 .i64 (s.size + 1) rfl rfl hby (by omega) ?_)
  go_loopg [7, 9] (l.length + 1) (fun k u7 u9 wr => ∃ (i : Nat) (B : Option Addr) (n c : Nat) (O : Nat → Bool), u7 = .slice B n c ∧ u9 = .int .i64 (i : Int) ∧ i + k = l.length + 1 ∧ i ≤ l.length ∧ Hid (BS wr (.slice B n c) (s.size + 1) O) ∧ Hid (∀ m, m ≤ (bys s).length → (Rx.stp (.row l) (bys s) F m ↔ Rx.stp (.row (l.drop i)) (bys s) O m)) ∧ Hid (NX wr w.heap.size ⟨#[114, 111, 119]⟩ (.slice A1 m1 c1) (.slice A2 l.length c2)) ∧ Hid (Below w.heap.size w wr))
  case atStart => exact ⟨0, A3, m3, c3, F, rfl, rfl, by omega, by omega, Lib.hid (HF.out.below (((Below.refl _ w).alloc (Nat.le_refl _) _).alloc (by simp) _)), Lib.hid (fun m _ => Iff.rfl), Lib.hid (blk_alloc (blk_new w _) _), Lib.hid (((Below.refl _ w).alloc (Nat.le_refl _) _).alloc (by simp) _)⟩
  case round =>
    obtain ⟨i, B, n, c, O, rfl, rfl, hik, hil, hO, hiff, hbox, hbel⟩ := hrel
    obtain ⟨wo, rfl⟩ : ∃ m : World, m = wr := ⟨_, rfl⟩
    have hbx := hbox.out.c2
    by_cases hi : i < l.length
    · have hc1 : decide (i < l.length) = true := decide_eq_true hi
      have hc2 : (i : Int) < (l.length : Int) := by omega
      have hc3 : (0 : Int) ≤ (i : Int) := by omega
      obtain ⟨y, hy⟩ : ∃ y, l[i]? = some y := ⟨_, List.getElem?_eq_getElem hi⟩
      have HMEM := Lib.hid (List.mem_of_getElem? hy)
      have hdrop : l.drop i = y :: l.drop (i + 1) := by
        rw [List.drop_eq_getElem_cons hi]
        rw [List.getElem?_eq_getElem hi] at hy
        injection hy with hy
        rw [hy]
      have HD := Lib.hid hdrop
      obtain ⟨g, Ku, B1, B2, n1, d1, n2, d2, rfl, hrg, hny⟩ := (HV.out.up hbel.out).inv_kids.2 i y hy
      have HRG := Lib.hid hrg
      have HNY := Lib.hid hny
      clear hy hdrop hrg hny
      go_wp2_with (first | (refine wpList_load_mid rfl _ (.tmp 94) rfl g (i * 3) rfl _ _ HRG.out Try.underlying40 rfl (by kernel_rfl) ?_) | (go_at_call 27; ((refine (HL.out y HMEM.out Ku B1 B2 B n1 d1 n2 d2 n c O _ HNY.out hO.out).mono ?_); rintro e w3 ⟨E, en, ec, G, rfl, hG, hGi, hb3⟩; have HG := Lib.hid hG; have HGI := Lib.hid hGi; have HB3 := Lib.hid hb3; clear hG hGi hb3)))
      go_roundg (gk - 1)
      case measure => omega
      case rel => exact ⟨i + 1, E, en, ec, G, rfl, by go_num, by omega, by omega, Lib.hid (by rw [← bys_len]; exact HG.out), Lib.hid (fun m hm => (hiff.out m hm).trans (by rw [HD.out]; exact Rx.stp_row_cons hm HGI.out)), Lib.hid (NX.chg (M := fun _ => False) hbox.out (Chg.of_below HB3.out) id), Lib.hid (below_then hbel.out HB3.out)⟩
    · have hc1 : decide (i < l.length) = false := decide_eq_false hi
      obtain rfl : i = l.length := by omega
      go_wp2
      go_ret
      refine ⟨B, n, c, O, rfl, by rw [bys_len]; exact hO.out, fun m hm => ?_, hbel.out⟩
      have := hiff.out m hm
      rw [List.drop_length] at this
      exact (Rx.stp_row_nil hm).symm.trans this.symm

set_option maxRecDepth 100000 in
set_option maxHeartbeats 4000000 in
theorem ends_either (s : ByteArray) (hs : s.size ≤ 64) (l : List Rx) (hll : l.length ≤ 100000) (hl : ∀ y, y ∈ l → EOk s y) : EOk s (.either l) := by
  intro K A1 A2 A3 m1 c1 m2 c2 m3 c3 F w hv hf
  obtain ⟨i0, hinf, hz0, hz1, hz2⟩ := info_parts Try.infoBool
  have hby : i0.bytes * (s.size + 1) ≤ 281474976710656 := by rw [hz2]; omega
  have hK : K = ⟨#[101, 105, 116, 104, 101, 114]⟩ := hv.one.1
  subst hK
  have hm2 : m2 = l.length := hv.inv_kids.1
  subst hm2
  have HV := Lib.hid hv
  have HF := Lib.hid hf
  have HL := Lib.hid hl
  clear hv hf hl
  go_enter Try.func27, Try.ntmps27
  go_wp2_with (at_make; refine wpList_make_row _ rfl (.tmp 17) (.tmp 17) 37 rfl 4 i0 (.bool false) Try.underlying37 hinf hz0 hz1 rfl .i64 .i64 (s.size + 1) rfl rfl hby (by omega) ?_)
  go_loopg [7, 10] (l.length + 1) (fun k u7 u9 wr => ∃ (i : Nat) (B : Option Addr) (n c : Nat) (O : Nat → Bool), u7 = .slice B n c ∧ u9 = .int .i64 (i : Int) ∧ i + k = l.length + 1 ∧ i ≤ l.length ∧ Hid (BS wr (.slice B n c) (s.size + 1) O) ∧ Hid (∀ m, m ≤ (bys s).length → (O m = true ↔ ∃ y, y ∈ l.take i ∧ Rx.stp y (bys s) F m)) ∧ Hid (NX wr w.heap.size ⟨#[101, 105, 116, 104, 101, 114]⟩ (.slice A1 m1 c1) (.slice A2 l.length c2)) ∧ Hid (Below w.heap.size w wr))
  case atStart => exact ⟨0, _, _, _, fun _ => false, rfl, rfl, by omega, by omega, Lib.hid (none_bs w _ _), Lib.hid (fun m _ => by simp), Lib.hid (blk_alloc (blk_new w _) _), Lib.hid (((Below.refl _ w).alloc (Nat.le_refl _) _).alloc (by simp) _)⟩
  case round =>
    obtain ⟨i, B, n, c, O, rfl, rfl, hik, hil, hO, hiff, hbox, hbel⟩ := hrel
    obtain ⟨wo, rfl⟩ : ∃ m : World, m = wr := ⟨_, rfl⟩
    have hbx := hbox.out.c2
    by_cases hi : i < l.length
    · have hc1 : decide (i < l.length) = true := decide_eq_true hi
      have hc2 : (i : Int) < (l.length : Int) := by omega
      have hc3 : (0 : Int) ≤ (i : Int) := by omega
      obtain ⟨y, hy⟩ : ∃ y, l[i]? = some y := ⟨_, List.getElem?_eq_getElem hi⟩
      have HMEM := Lib.hid (List.mem_of_getElem? hy)
      have htake : l.take (i + 1) = l.take i ++ [y] := by rw [List.take_add_one, hy]; rfl
      have HD := Lib.hid htake
      obtain ⟨g, Ku, B1, B2, n1, d1, n2, d2, rfl, hrg, hny⟩ := (HV.out.up hbel.out).inv_kids.2 i y hy
      have HRG := Lib.hid hrg
      have HNY := Lib.hid hny
      clear hy htake hrg hny
      go_wp2_with (first | (refine wpList_load_mid rfl _ (.tmp 112) rfl g (i * 3) rfl _ _ HRG.out Try.underlying40 rfl (by kernel_rfl) ?_) | (go_at_call 27; ((refine (HL.out y HMEM.out Ku B1 B2 A3 n1 d1 n2 d2 m3 c3 F _ HNY.out (HF.out.below hbel.out)).mono ?_); rintro e w3 ⟨E, en, ec, G, rfl, hG, hGi, hb3⟩; have HG := Lib.hid hG; have HGI := Lib.hid hGi; have HB3 := Lib.hid hb3; clear hG hGi hb3)) | (go_at_call 35; ((refine (or_calls _ _ (s.size + 1) O G _ (by omega) (by omega) (by exact hO.out.below HB3.out) (by rw [← bys_len]; exact HG.out)).mono ?_); rintro e w4 ⟨v4, rfl, hG4, hb4⟩; obtain ⟨E4, en4, ec4, rfl⟩ := hG4.sl; have HG4 := Lib.hid hG4; have HB4 := Lib.hid hb4; clear hG4 hb4)))
      go_roundg (gk - 1)
      case measure => omega
      case rel =>
        refine ⟨i + 1, E4, en4, ec4, _, rfl, by go_num, by omega, by omega, HG4, Lib.hid (fun m hm => ?_), Lib.hid (NX.chg (M := fun _ => False) (NX.chg (M := fun _ => False) hbox.out (Chg.of_below HB3.out) id) (Chg.of_below HB4.out) id), Lib.hid (below_then (below_then hbel.out HB3.out) HB4.out)⟩
        rw [Bool.or_eq_true, hiff.out m hm, HGI.out m hm, HD.out]
        simp only [List.mem_append, List.mem_singleton]
        constructor
        · rintro (⟨z, h1, h2⟩ | h)
          · exact ⟨z, .inl h1, h2⟩
          · exact ⟨y, .inr rfl, h⟩
        · rintro ⟨z, h1 | rfl, h2⟩
          · exact .inl ⟨z, h1, h2⟩
          · exact .inr h2
    · have hc1 : decide (i < l.length) = false := decide_eq_false hi
      obtain rfl : i = l.length := by omega
      go_wp2
      go_ret
      refine ⟨B, n, c, O, rfl, by rw [bys_len]; exact hO.out, fun m hm => ?_, hbel.out⟩
      have := hiff.out m hm
      rw [List.take_length] at this
      exact this.trans Rx.stp_any.symm
end Go.Proofs.Ytaaonhaighdlaaa
