/- The document's matcher, walked: times. -/
import Derived.Test.YtaaonhaighdlaaaRfL
namespace Go.Proofs.Ytaaonhaighdlaaa
open Go.RowKit
set_option linter.unusedVariables false
set_option linter.unusedSimpArgs false

/-- Do two differ below i? -/
def dif (G O : Nat → Bool) : Nat → Bool
  | 0 => false
  | i + 1 => dif G O i || (G i != O i)
theorem dif_false {G O : Nat → Bool} : ∀ {i : Nat}, dif G O i = false → ∀ j, j < i → G j = O j
  | 0, _, j, hj => by omega
  | i + 1, h, j, hj => by
    simp only [dif, Bool.or_eq_false_iff] at h
    by_cases e : j = i
    · subst e
      have := h.2
      cases hg : G j <;> cases ho : O j <;> simp_all
    · exact dif_false h.1 j (by omega)
/-- How many places are not there. -/
def cfs (O : Nat → Bool) : Nat → Nat
  | 0 => 0
  | i + 1 => cfs O i + (if O i = true then 0 else 1)
theorem cfs_le (O : Nat → Bool) : ∀ i, cfs O i ≤ i
  | 0 => Nat.le_refl _
  | i + 1 => by have := cfs_le O i; unfold cfs; split <;> omega
theorem cfs_less {G O : Nat → Bool} (h : ∀ j, O j = true → G j = true) : ∀ i, cfs G i + (if dif G O i = true then 1 else 0) ≤ cfs O i
  | 0 => by simp [cfs, dif]
  | i + 1 => by
    have ih := cfs_less h i
    have hi := h i
    unfold cfs dif
    cases hg : G i <;> cases ho : O i <;> cases hd : dif G O i <;> simp_all <;> omega
/-- What a sign of times means: sound, begun, open or closed. -/
structure Clo (r X : Rx) (u : List Nat) (F : Nat → Bool) (st : Bool) (O : Nat → Bool) : Prop where
  sound : ∀ e, e ≤ u.length → O e = true → Rx.stp X u F e
  base : st = true → ∀ e, e ≤ u.length → F e = true → O e = true
structure Opn (r X : Rx) (u : List Nat) (F : Nat → Bool) (O W : Nat → Bool) : Prop where
  snd : ∀ e, e ≤ u.length → Rx.stp r u W e → Rx.stp X u F e
  stay : ∀ e, e ≤ u.length → Rx.stp r u O e → O e = true ∨ Rx.stp r u W e
  first : ∀ e, e ≤ u.length → Rx.stp r u F e → O e = true ∨ Rx.stp r u W e
structure Shut (r : Rx) (u : List Nat) (F O : Nat → Bool) : Prop where
  clo : ∀ e, e ≤ u.length → Rx.stp r u O e → O e = true
  first : ∀ e, e ≤ u.length → Rx.stp r u F e → O e = true
def Steps (r X : Rx) (u : List Nat) (F : Nat → Bool) : Prop := ∀ O : Nat → Bool, (∀ e, e ≤ u.length → O e = true → Rx.stp X u F e) → ∀ e, e ≤ u.length → Rx.stp r u O e → Rx.stp X u F e
section
variable {r X : Rx} {u : List Nat} {F O W G : Nat → Bool} {st : Bool}
theorem Clo.more (h : Clo r X u F st O) (ho : Opn r X u F O W) (hG : ∀ e, e ≤ u.length → (G e = true ↔ Rx.stp r u W e)) : Clo r X u F st (fun e => O e || G e) :=
  ⟨fun e he hh => by
    simp only [Bool.or_eq_true] at hh
    rcases hh with hh | hh
    · exact h.sound e he hh
    · exact ho.snd e he ((hG e he).1 hh), fun hs e he hf => by simp only [Bool.or_eq_true]; exact .inl (h.base hs e he hf)⟩
theorem stp_or {e : Nat} (h : Rx.stp r u (fun e => O e || G e) e) : Rx.stp r u O e ∨ Rx.stp r u G e := by
  obtain ⟨b, h1, h2, h3⟩ := h
  simp only [Bool.or_eq_true] at h2
  rcases h2 with h2 | h2
  · exact .inl ⟨b, h1, h2, h3⟩
  · exact .inr ⟨b, h1, h2, h3⟩
theorem Opn.more (ho : Opn r X u F O W) (hs : Steps r X u F) (hG : ∀ e, e ≤ u.length → (G e = true ↔ Rx.stp r u W e)) : Opn r X u F (fun e => O e || G e) G :=
  ⟨fun e he hh => hs G (fun e he hg => ho.snd e he ((hG e he).1 hg)) e he hh,
   fun e he hh => by
    simp only [Bool.or_eq_true]
    rcases stp_or hh with hh | hh
    · rcases ho.stay e he hh with h | h
      · exact .inl (.inl h)
      · exact .inl (.inr ((hG e he).2 h))
    · exact .inr hh,
   fun e he hh => by
    simp only [Bool.or_eq_true]
    rcases ho.first e he hh with h | h
    · exact .inl (.inl h)
    · exact .inl (.inr ((hG e he).2 h))⟩
theorem Opn.shut (ho : Opn r X u F O W) (hG : ∀ e, e ≤ u.length → (G e = true ↔ Rx.stp r u W e)) (hd : ∀ e, e ≤ u.length → (O e || G e) = O e) : Shut r u F (fun e => O e || G e) := by
  have key : ∀ e, e ≤ u.length → (O e = true ∨ Rx.stp r u W e) → (O e || G e) = true := fun e he h => by
    rcases h with h | h
    · rw [h]; rfl
    · rw [(hG e he).2 h, Bool.or_true]
  refine ⟨fun e he hh => key e he (ho.stay e he ?_), fun e he hh => key e he (ho.first e he hh)⟩
  exact Rx.stp_mono (fun b hb h => by rw [hd b (by omega)] at h; exact h) hh
end

set_option maxRecDepth 100000 in
set_option maxHeartbeats 4000000 in
theorem ends_maybe (s : ByteArray) (hs : s.size ≤ 64) (r : Rx) (hl : EOk s r) : EOk s (.maybe r) := by
  intro K A1 A2 A3 m1 c1 m2 c2 m3 c3 F w hv hf
  obtain ⟨i0, hinf, hz0, hz1, hz2⟩ := info_parts Try.infoBool
  have hby : i0.bytes * (s.size + 1) ≤ 281474976710656 := by rw [hz2]; omega
  have hK : K = ⟨#[63]⟩ := hv.one.1
  subst hK
  have hm2 : m2 = 1 := hv.inv_kids.1
  subst hm2
  obtain ⟨g, Ku, B1, B2, n1, d1, n2, d2, rfl, hrg, hny⟩ := (hv.up (((Below.refl _ w).alloc (Nat.le_refl _) (.cells #[.string ⟨#[63]⟩, .slice A1 m1 c1, .slice A2 1 c2] 40)).alloc (by simp) (.cells (madeCells #[.bool false] (s.size + 1)) 4))).inv_kids.2 0 r rfl
  have HRG := Lib.hid hrg
  have HNY := Lib.hid hny
  have hf2 := hf.below (((Below.refl _ w).alloc (Nat.le_refl _) (.cells #[.string ⟨#[63]⟩, .slice A1 m1 c1, .slice (some ⟨g, 0, none⟩) 1 c2] 40)).alloc (by simp) (.cells (madeCells #[.bool false] (s.size + 1)) 4))
  have HF := Lib.hid hf2
  have HL := Lib.hid hl
  clear hv hf hl hrg hny hf2
  go_enter Try.func27, Try.ntmps27
  go_wp2_with (first | (at_make; refine wpList_make_row _ rfl (.tmp 17) (.tmp 17) 37 rfl 4 i0 (.bool false) Try.underlying37 hinf hz0 hz1 rfl .i64 .i64 (s.size + 1) rfl rfl hby (by omega) ?_) | (refine wpList_load_mid rfl _ (.tmp 123) rfl g 0 rfl _ _ HRG.out Try.underlying40 rfl (by kernel_rfl) ?_) | (go_at_call 27; ((refine (HL.out Ku B1 B2 A3 n1 d1 n2 d2 m3 c3 F _ HNY.out HF.out).mono ?_); rintro e w3 ⟨E, en, ec, G, rfl, hG, hGi, hb3⟩; have HG := Lib.hid hG; have HGI := Lib.hid hGi; have HB3 := Lib.hid hb3; clear hG hGi hb3)) | (go_at_call 35; ((refine (or_calls _ _ (s.size + 1) F G _ (by omega) (by omega) (by exact HF.out.below HB3.out) (by rw [← bys_len]; exact HG.out)).mono ?_); rintro e w4 ⟨v4, rfl, hG4, hb4⟩; obtain ⟨E4, en4, ec4, rfl⟩ := hG4.sl; have HG4 := Lib.hid hG4; have HB4 := Lib.hid hb4; clear hG4 hb4)))
  go_ret
  refine ⟨E4, en4, ec4, _, rfl, by rw [bys_len]; exact HG4.out, fun m hm => ?_, ?_⟩
  · rw [Rx.stp_maybe hm, Bool.or_eq_true, HGI.out m hm]
  · exact below_then (below_then (((Below.refl _ w).alloc (Nat.le_refl _) _).alloc (by simp) _) HB3.out) HB4.out

set_option maxRecDepth 100000 in
set_option maxHeartbeats 8000000 in
theorem ends_star (s : ByteArray) (hs : s.size ≤ 64) (r : Rx) (hl : EOk s r) : EOk s (.star r) := by
  intro K A1 A2 A3 m1 c1 m2 c2 m3 c3 F w hv hf
  obtain ⟨i0, hinf, hz0, hz1, hz2⟩ := info_parts Try.infoBool
  have hby : i0.bytes * (s.size + 1) ≤ 281474976710656 := by rw [hz2]; omega
  have hK : K = ⟨#[42]⟩ := hv.one.1
  subst hK
  have hm2 : m2 = 1 := hv.inv_kids.1
  subst hm2
  have HV := Lib.hid hv
  have HF := Lib.hid hf
  have HL := Lib.hid hl
  have HST : Hid (Steps r (.star r) (bys s) F) := Lib.hid (fun O hO e he h => Rx.star_step hO he h)
  clear hv hf hl
  go_enter Try.func27, Try.ntmps27
  go_wp2_with (at_make; refine wpList_make_row _ rfl (.tmp 17) (.tmp 17) 37 rfl 4 i0 (.bool false) Try.underlying37 hinf hz0 hz1 rfl .i64 .i64 (s.size + 1) rfl rfl hby (by omega) ?_)
  go_loopg [7, 11, 12] (s.size + 2) (fun k u7 u11 u12 wr => ∃ (B D : Option Addr) (n c n' c' : Nat) (O W : Nat → Bool) (mo : Bool), u7 = .slice B n c ∧ u11 = .slice D n' c' ∧ u12 = .bool mo ∧ Hid (BS wr (.slice B n c) (s.size + 1) O) ∧ Hid (BS wr (.slice D n' c') (s.size + 1) W) ∧ Hid (Clo r (.star r) (bys s) F true O) ∧ Hid ((mo = true ∧ Opn r (.star r) (bys s) F O W ∧ cfs O (s.size + 1) < k) ∨ (mo = false ∧ Shut r (bys s) F O)) ∧ Hid (NX wr w.heap.size ⟨#[42]⟩ (.slice A1 m1 c1) (.slice A2 1 c2)) ∧ Hid (Below w.heap.size w wr))
  case atStart => exact ⟨A3, A3, m3, c3, m3, c3, F, F, true, rfl, rfl, rfl, Lib.hid (HF.out.below (((Below.refl _ w).alloc (Nat.le_refl _) _).alloc (by simp) _)), Lib.hid (HF.out.below (((Below.refl _ w).alloc (Nat.le_refl _) _).alloc (by simp) _)), Lib.hid ⟨fun e he h => Rx.star_self h, fun _ e he h => h⟩, Lib.hid (.inl ⟨rfl, ⟨fun e he h => HST.out F (fun e he h => Rx.star_self h) e he h, fun e he h => .inr h, fun e he h => .inr h⟩, by have := cfs_le F (s.size + 1); omega⟩), Lib.hid (blk_alloc (blk_new w _) _), Lib.hid (((Below.refl _ w).alloc (Nat.le_refl _) _).alloc (by simp) _)⟩
  case round =>
    obtain ⟨B, D, n, c, n', c', O, W, mo, rfl, rfl, rfl, hO, hW, hclo, hst, hbox, hbel⟩ := hrel
    obtain ⟨wo, rfl⟩ : ∃ m : World, m = wr := ⟨_, rfl⟩
    obtain ⟨gk0, rfl⟩ : ∃ m : Nat, m = gk := ⟨_, rfl⟩
    have hbx := hbox.out.c2
    cases mo with
    | false =>
      have HSH : Hid (Shut r (bys s) F O) := Lib.hid (by
        rcases hst.out with ⟨h, _⟩ | ⟨_, h⟩
        · cases h
        · exact h)
      clear hst
      go_wp2
      go_ret
      exact ⟨B, n, c, O, rfl, by rw [bys_len]; exact hO.out, fun m hm => ⟨hclo.out.sound m hm, fun h => Rx.star_least (hclo.out.base rfl) HSH.out.clo hm h⟩, hbel.out⟩
    | true =>
      have HOP : Hid (Opn r (.star r) (bys s) F O W ∧ cfs O (s.size + 1) < gk0) := Lib.hid (by
        rcases hst.out with ⟨_, h⟩ | ⟨h, _⟩
        · exact h
        · cases h)
      clear hst
      obtain ⟨g, Ku, B1, B2, n1, d1, n2, d2, rfl, hrg, hny⟩ := (HV.out.up hbel.out).inv_kids.2 0 r rfl
      have HRG := Lib.hid hrg
      have HNY := Lib.hid hny
      clear hrg hny
      go_wp2_with (first | (refine wpList_load_mid rfl _ (.tmp 29) rfl g 0 rfl _ _ HRG.out Try.underlying40 rfl (by kernel_rfl) ?_) | (go_at_call 27; ((refine (HL.out Ku B1 B2 D n1 d1 n2 d2 n' c' W _ HNY.out hW.out).mono ?_); rintro e w3 ⟨E, en, ec, G, rfl, hG, hGi, hb3⟩; have HG := Lib.hid hG; have HGI := Lib.hid hGi; have HB3 := Lib.hid hb3; clear hG hGi hb3)) | (go_at_call 35; ((refine (or_calls _ _ (s.size + 1) O G _ (by omega) (by omega) (by exact hO.out.below HB3.out) (by rw [← bys_len]; exact HG.out)).mono ?_); rintro e w4 ⟨v4, rfl, hG4, hb4⟩; have HB4 := Lib.hid hb4; have HG4 := Lib.hid hG4; have HO4 := Lib.hid ((hO.out.below HB3.out).below HB4.out); clear hb4)))
      obtain ⟨gn, cn, csn, rfl, hn2, hn3, hn4⟩ := HG4.out
      obtain ⟨go_, co, cso, e1, ho2, ho3, ho4⟩ := HO4.out
      injection e1 with e1 e2 e3
      subst e1; subst e2; subst e3
      have HN3 := Lib.hid hn3
      have HN4 := Lib.hid hn4
      have HO3 := Lib.hid ho3
      have HO44 := Lib.hid ho4
      clear hn3 hn4 ho3 ho4
      have HGE := Lib.hid (show BS w4 (.slice E en ec) (s.size + 1) G from by have := HG.out.below HB4.out; rw [bys_len] at this; exact this)
      have HBX := Lib.hid (NX.chg (M := fun _ => False) (NX.chg (M := fun _ => False) hbox.out (Chg.of_below HB3.out) id) (Chg.of_below HB4.out) id)
      go_loopg [12, 14] (s.size + 2) (fun k u12 u14 wr => ∃ (i : Nat), u12 = .bool (dif (fun e => O e || G e) O i) ∧ u14 = .int .i64 (i : Int) ∧ i + k = s.size + 2 ∧ i ≤ s.size + 1 ∧ ∃ d, wr = w4.drewN d)
      case atStart => exact ⟨0, rfl, rfl, by omega, by omega, 0, rfl⟩
      case round =>
        obtain ⟨i, rfl, rfl, hik, hil, d, rfl⟩ := hrel
        by_cases hi : i < s.size + 1
        · have hc1 : decide ((i : Int) < (s.size : Int) + 1) = true := decide_eq_true (by omega)
          have hc2 : (i : Int) < (s.size : Int) + 1 := by omega
          have hc3 : (0 : Int) ≤ (i : Int) := by omega
          have hcn : w4.cell? ⟨gn, i, none⟩ = some (.bool (O i || G i)) := (blk_cell HN3.out).trans (HN4.out i hi)
          have hco : w4.cell? ⟨go_, i, none⟩ = some (.bool (O i)) := (blk_cell HO3.out).trans (HO44.out i hi)
          have hdf : dif (fun e => O e || G e) O (i + 1) = (dif (fun e => O e || G e) O i || ((O i || G i) != O i)) := rfl
          have HDF := Lib.hid hdf
          clear hdf
          generalize hdi : dif (fun e => O e || G e) O i = di at *
          generalize (O i || G i) = x1 at *
          generalize O i = x2 at *
          cases di with
          | true =>
            go_wp2
            go_quiet (fail)
            go_wp2
            go_roundg (gk - 1)
            case measure => omega
            case rel => exact ⟨i + 1, by rw [HDF.out]; rfl, by go_num, by omega, by omega, _, rfl⟩
          | false =>
            go_wp2
            go_quiet (fail)
            go_wp2
            go_roundg (gk - 1)
            case measure => omega
            case rel => exact ⟨i + 1, by rw [HDF.out]; cases x1 <;> cases x2 <;> rfl, by go_num, by omega, by omega, _, rfl⟩
        · have hc1 : decide ((i : Int) < (s.size : Int) + 1) = false := decide_eq_false (by omega)
          obtain rfl : i = s.size + 1 := by omega
          go_wp2
          go_roundg (gk0 - 1)
          case measure => have := HOP.out.2; omega
          case rel =>
            have hless := cfs_less (G := fun e => O e || G e) (O := O) (fun j h => by simp [h]) (s.size + 1)
            refine ⟨_, _, _, _, _, _, (fun e => O e || G e), G, dif (fun e => O e || G e) O (s.size + 1), rfl, rfl, rfl, Lib.hid (HG4.out.below ⟨rfl, rfl, rfl, Nat.le_refl _, fun _ _ => rfl⟩), Lib.hid (HGE.out.below ⟨rfl, rfl, rfl, Nat.le_refl _, fun _ _ => rfl⟩), Lib.hid (hclo.out.more HOP.out.1 HGI.out), Lib.hid ?_, HBX, Lib.hid ((below_then (below_then hbel.out HB3.out) HB4.out).trans ⟨rfl, rfl, rfl, Nat.le_refl _, fun _ _ => rfl⟩)⟩
            have h9 := HOP.out.2
            cases hd : dif (fun e => O e || G e) O (s.size + 1) with
            | true =>
              rw [hd] at hless
              simp only [if_true] at hless
              exact .inl ⟨rfl, HOP.out.1.more HST.out HGI.out, by omega⟩
            | false => exact .inr ⟨rfl, HOP.out.1.shut HGI.out (fun e he => dif_false hd e (by rw [bys_len] at he; omega))⟩

set_option maxRecDepth 100000 in
set_option maxHeartbeats 8000000 in
theorem ends_plus (s : ByteArray) (hs : s.size ≤ 64) (r : Rx) (hl : EOk s r) : EOk s (.plus r) := by
  intro K A1 A2 A3 m1 c1 m2 c2 m3 c3 F w hv hf
  obtain ⟨i0, hinf, hz0, hz1, hz2⟩ := info_parts Try.infoBool
  have hby : i0.bytes * (s.size + 1) ≤ 281474976710656 := by rw [hz2]; omega
  have hK : K = ⟨#[43]⟩ := hv.one.1
  subst hK
  have hm2 : m2 = 1 := hv.inv_kids.1
  subst hm2
  have HV := Lib.hid hv
  have HF := Lib.hid hf
  have HL := Lib.hid hl
  have HST : Hid (Steps r (.plus r) (bys s) F) := Lib.hid (fun O hO e he h => Rx.plus_step hO he h)
  clear hv hf hl
  go_enter Try.func27, Try.ntmps27
  go_wp2_with (at_make; refine wpList_make_row _ rfl (.tmp 17) (.tmp 17) 37 rfl 4 i0 (.bool false) Try.underlying37 hinf hz0 hz1 rfl .i64 .i64 (s.size + 1) rfl rfl hby (by omega) ?_)
  go_loopg [7, 11, 12] (s.size + 2) (fun k u7 u11 u12 wr => ∃ (B D : Option Addr) (n c n' c' : Nat) (O W : Nat → Bool) (mo : Bool), u7 = .slice B n c ∧ u11 = .slice D n' c' ∧ u12 = .bool mo ∧ Hid (BS wr (.slice B n c) (s.size + 1) O) ∧ Hid (BS wr (.slice D n' c') (s.size + 1) W) ∧ Hid (Clo r (.plus r) (bys s) F false O) ∧ Hid ((mo = true ∧ Opn r (.plus r) (bys s) F O W ∧ cfs O (s.size + 1) < k) ∨ (mo = false ∧ Shut r (bys s) F O)) ∧ Hid (NX wr w.heap.size ⟨#[43]⟩ (.slice A1 m1 c1) (.slice A2 1 c2)) ∧ Hid (Below w.heap.size w wr))
  case atStart => exact ⟨_, A3, _, _, m3, c3, fun _ => false, F, true, rfl, rfl, rfl, Lib.hid (none_bs w _ _), Lib.hid (HF.out.below (((Below.refl _ w).alloc (Nat.le_refl _) _).alloc (by simp) _)), Lib.hid ⟨fun e he h => (by cases h), fun h => (by cases h)⟩, Lib.hid (.inl ⟨rfl, ⟨fun e he h => Rx.plus_self h, fun e he h => (by obtain ⟨b, h1, h2, h3⟩ := h; cases h2), fun e he h => .inr h⟩, by have := cfs_le (fun _ => false) (s.size + 1); omega⟩), Lib.hid (blk_alloc (blk_new w _) _), Lib.hid (((Below.refl _ w).alloc (Nat.le_refl _) _).alloc (by simp) _)⟩
  case round =>
    obtain ⟨B, D, n, c, n', c', O, W, mo, rfl, rfl, rfl, hO, hW, hclo, hst, hbox, hbel⟩ := hrel
    obtain ⟨wo, rfl⟩ : ∃ m : World, m = wr := ⟨_, rfl⟩
    obtain ⟨gk0, rfl⟩ : ∃ m : Nat, m = gk := ⟨_, rfl⟩
    have hbx := hbox.out.c2
    cases mo with
    | false =>
      have HSH : Hid (Shut r (bys s) F O) := Lib.hid (by
        rcases hst.out with ⟨h, _⟩ | ⟨_, h⟩
        · cases h
        · exact h)
      clear hst
      go_wp2
      go_ret
      exact ⟨B, n, c, O, rfl, by rw [bys_len]; exact hO.out, fun m hm => ⟨hclo.out.sound m hm, fun h => Rx.plus_least HSH.out.first HSH.out.clo hm h⟩, hbel.out⟩
    | true =>
      have HOP : Hid (Opn r (.plus r) (bys s) F O W ∧ cfs O (s.size + 1) < gk0) := Lib.hid (by
        rcases hst.out with ⟨_, h⟩ | ⟨h, _⟩
        · exact h
        · cases h)
      clear hst
      obtain ⟨g, Ku, B1, B2, n1, d1, n2, d2, rfl, hrg, hny⟩ := (HV.out.up hbel.out).inv_kids.2 0 r rfl
      have HRG := Lib.hid hrg
      have HNY := Lib.hid hny
      clear hrg hny
      go_wp2_with (first | (refine wpList_load_mid rfl _ (.tmp 29) rfl g 0 rfl _ _ HRG.out Try.underlying40 rfl (by kernel_rfl) ?_) | (go_at_call 27; ((refine (HL.out Ku B1 B2 D n1 d1 n2 d2 n' c' W _ HNY.out hW.out).mono ?_); rintro e w3 ⟨E, en, ec, G, rfl, hG, hGi, hb3⟩; have HG := Lib.hid hG; have HGI := Lib.hid hGi; have HB3 := Lib.hid hb3; clear hG hGi hb3)) | (go_at_call 35; ((refine (or_calls _ _ (s.size + 1) O G _ (by omega) (by omega) (by exact hO.out.below HB3.out) (by rw [← bys_len]; exact HG.out)).mono ?_); rintro e w4 ⟨v4, rfl, hG4, hb4⟩; have HB4 := Lib.hid hb4; have HG4 := Lib.hid hG4; have HO4 := Lib.hid ((hO.out.below HB3.out).below HB4.out); clear hb4)))
      obtain ⟨gn, cn, csn, rfl, hn2, hn3, hn4⟩ := HG4.out
      obtain ⟨go_, co, cso, e1, ho2, ho3, ho4⟩ := HO4.out
      injection e1 with e1 e2 e3
      subst e1; subst e2; subst e3
      have HN3 := Lib.hid hn3
      have HN4 := Lib.hid hn4
      have HO3 := Lib.hid ho3
      have HO44 := Lib.hid ho4
      clear hn3 hn4 ho3 ho4
      have HGE := Lib.hid (show BS w4 (.slice E en ec) (s.size + 1) G from by have := HG.out.below HB4.out; rw [bys_len] at this; exact this)
      have HBX := Lib.hid (NX.chg (M := fun _ => False) (NX.chg (M := fun _ => False) hbox.out (Chg.of_below HB3.out) id) (Chg.of_below HB4.out) id)
      go_loopg [12, 14] (s.size + 2) (fun k u12 u14 wr => ∃ (i : Nat), u12 = .bool (dif (fun e => O e || G e) O i) ∧ u14 = .int .i64 (i : Int) ∧ i + k = s.size + 2 ∧ i ≤ s.size + 1 ∧ ∃ d, wr = w4.drewN d)
      case atStart => exact ⟨0, rfl, rfl, by omega, by omega, 0, rfl⟩
      case round =>
        obtain ⟨i, rfl, rfl, hik, hil, d, rfl⟩ := hrel
        by_cases hi : i < s.size + 1
        · have hc1 : decide ((i : Int) < (s.size : Int) + 1) = true := decide_eq_true (by omega)
          have hc2 : (i : Int) < (s.size : Int) + 1 := by omega
          have hc3 : (0 : Int) ≤ (i : Int) := by omega
          have hcn : w4.cell? ⟨gn, i, none⟩ = some (.bool (O i || G i)) := (blk_cell HN3.out).trans (HN4.out i hi)
          have hco : w4.cell? ⟨go_, i, none⟩ = some (.bool (O i)) := (blk_cell HO3.out).trans (HO44.out i hi)
          have hdf : dif (fun e => O e || G e) O (i + 1) = (dif (fun e => O e || G e) O i || ((O i || G i) != O i)) := rfl
          have HDF := Lib.hid hdf
          clear hdf
          generalize hdi : dif (fun e => O e || G e) O i = di at *
          generalize (O i || G i) = x1 at *
          generalize O i = x2 at *
          cases di with
          | true =>
            go_wp2
            go_quiet (fail)
            go_wp2
            go_roundg (gk - 1)
            case measure => omega
            case rel => exact ⟨i + 1, by rw [HDF.out]; rfl, by go_num, by omega, by omega, _, rfl⟩
          | false =>
            go_wp2
            go_quiet (fail)
            go_wp2
            go_roundg (gk - 1)
            case measure => omega
            case rel => exact ⟨i + 1, by rw [HDF.out]; cases x1 <;> cases x2 <;> rfl, by go_num, by omega, by omega, _, rfl⟩
        · have hc1 : decide ((i : Int) < (s.size : Int) + 1) = false := decide_eq_false (by omega)
          obtain rfl : i = s.size + 1 := by omega
          go_wp2
          go_roundg (gk0 - 1)
          case measure => have := HOP.out.2; omega
          case rel =>
            have hless := cfs_less (G := fun e => O e || G e) (O := O) (fun j h => by simp [h]) (s.size + 1)
            refine ⟨_, _, _, _, _, _, (fun e => O e || G e), G, dif (fun e => O e || G e) O (s.size + 1), rfl, rfl, rfl, Lib.hid (HG4.out.below ⟨rfl, rfl, rfl, Nat.le_refl _, fun _ _ => rfl⟩), Lib.hid (HGE.out.below ⟨rfl, rfl, rfl, Nat.le_refl _, fun _ _ => rfl⟩), Lib.hid (hclo.out.more HOP.out.1 HGI.out), Lib.hid ?_, HBX, Lib.hid ((below_then (below_then hbel.out HB3.out) HB4.out).trans ⟨rfl, rfl, rfl, Nat.le_refl _, fun _ _ => rfl⟩)⟩
            have h9 := HOP.out.2
            cases hd : dif (fun e => O e || G e) O (s.size + 1) with
            | true =>
              rw [hd] at hless
              simp only [if_true] at hless
              exact .inl ⟨rfl, HOP.out.1.more HST.out HGI.out, by omega⟩
            | false => exact .inr ⟨rfl, HOP.out.1.shut HGI.out (fun e he => dif_false hd e (by rw [bys_len] at he; omega))⟩
end Go.Proofs.Ytaaonhaighdlaaa
