/- A class of bytes, walked. -/
import Derived.Test.YtmlmnckhiianhaaDoorRxB
namespace Go.Proofs.YtmlmnckhiianhaaDoor
open Go.RowKit
set_option linter.unusedVariables false
set_option linter.unusedSimpArgs false

theorem one_ok (g : Nat) (s : ByteArray) (i : Nat) (deep : Int) (w : World) (hs : s.size ≤ 64) (hi : i ≤ s.size) (hp : PS w g s i deep 0) {c j : Nat} (h : Rx.pOne (bys s) i = .ok (c, j)) :
    Calls Tryd.prog 81 #[.pointer (some ⟨g, 0, none⟩)] w fun e w' => e = .returned (.int .u8 c) ∧ PS w' g s j deep 0 ∧ c < 256 ∧ j ≤ s.size ∧ Chg (· = g) w w' :=
  (one_calls g s i deep w hs hi hp).mono fun e w' hr => by rw [h] at hr; exact ⟨hr.2.1, hr.2.2.1, hr.2.2.2.1, hr.2.2.2.2, hr.1⟩
theorem one_err (g : Nat) (s : ByteArray) (i : Nat) (deep : Int) (w : World) (hs : s.size ≤ 64) (hi : i ≤ s.size) (hp : PS w g s i deep 0) {er : Nat} (h : Rx.pOne (bys s) i = .error er) :
    Calls Tryd.prog 81 #[.pointer (some ⟨g, 0, none⟩)] w fun e w' => e = .returned (.int .u8 0) ∧ PS w' g s s.size deep er ∧ Chg (· = g) w w' :=
  (one_calls g s i deep w hs hi hp).mono fun e w' hr => by rw [h] at hr; exact ⟨hr.2.1, hr.2.2, hr.1⟩
theorem pOne_err {t : List Nat} {i er : Nat} (h : Rx.pOne t i = .error er) : er = 27 := by
  unfold Rx.pOne at h
  simp only at h
  split at h <;> simp_all
theorem pk_end (s : ByteArray) (c : Nat) : pk s s.size c = false := by rw [pk, bys_ge s _ (Nat.le_refl _)]; simp

/-- What a class's loop is still to bring. -/
def cLoop (t : List Nat) (k : Nat) (first : Bool) (j : Nat) (P : Nat → Bool) : Except Nat ((Nat → Bool) × Nat) :=
  if first = true then Rx.pItems t k j P else if t[j]? = some 93 then .ok (P, j + 1) else Rx.pItems t k j P

/-- The state at the head of a class's loop: in order, or with a fault. -/
def CInv (g n0 : Nat) (s : ByteArray) (deep : Int) (w0 : World) (R : Except Nat ((Nat → Bool) × Nat)) (k : Nat) (first : Bool) (w : World) : Prop :=
  Chg (· = g) w0 w ∧ n0 < w.heap.size ∧ n0 ≠ g ∧ w0.heap.size ≤ n0 ∧
  ((∃ j P q, PS w g s (j : Nat) deep 0 ∧ j ≤ s.size ∧ NB w n0 0 q (.slice none 0 0) ∧ SetV q P ∧ s.size < j + k ∧ cLoop (bys s) k first j P = R) ∨
   (PS w g s s.size deep 27 ∧ R = .error 27))

def ClassRes (g : Nat) (s : ByteArray) (deep : Int) (w : World) (r : Except Nat (Rx × Nat)) (e : Ending) (w' : World) : Prop :=
  Chg (· = g) w w' ∧ match r with
  | .ok (x, j) => ∃ b q P, e = .returned (.pointer (some ⟨b, 0, none⟩)) ∧ w.heap.size ≤ b ∧ NB w' b 0 q (.slice none 0 0) ∧ SetV q P ∧ x = .byte P ∧ PS w' g s j deep 0 ∧ j ≤ s.size
  | .error er => (∃ q, e = .returned (.pointer q)) ∧ PS w' g s s.size deep er ∧ er = 27
theorem SetV.start {q : Nat → Int} {P : Nat → Bool} (h : SetV q P) (c : Nat) : SetV q (fun y => P y || (decide (c ≤ y) && decide (y < c))) :=
  h.congr fun y _ => by cases P y <;> simp <;> omega
theorem SetV.step {q : Nat → Int} {P : Nat → Bool} {lo x : Nat} (h : SetV q (fun y => (P y || (decide (lo ≤ y) && decide (y < x))) || y == (x : Int).toNat)) (hx : lo ≤ x) : SetV q (fun y => P y || (decide (lo ≤ y) && decide (y < x + 1))) :=
  h.congr fun y _ => by cases P y <;> simp only [Int.toNat_natCast, Bool.true_or, Bool.false_or]; rw [Bool.eq_iff_iff]; simp only [Bool.or_eq_true, Bool.and_eq_true, decide_eq_true_eq, beq_iff_eq]; omega
theorem pOne_lt {s : ByteArray} {i c j : Nat} (h : Rx.pOne (bys s) i = .ok (c, j)) : c < 256 ∧ i < j ∧ j ≤ s.size := by
  unfold Rx.pOne at h
  simp only at h
  split at h
  · cases h
  · rename_i x hx
    injection h with h
    injection h with h1 h2
    subst h1
    have hm : x ∈ bys s := List.mem_of_getElem? hx
    have hl := (List.getElem?_eq_some_iff.1 hx).1
    rw [bys_len] at hl
    refine ⟨bys_lt s _ hm, ?_, ?_⟩ <;> (split at h2 <;> split at hl <;> simp_all <;> omega)
theorem pk_lt {s : ByteArray} {i c : Nat} (h : pk s i c = true) : i < s.size := by
  rcases Nat.lt_or_ge i s.size with h' | h'
  · exact h'
  · rw [pk, bys_ge s i h'] at h; simp at h
theorem peek41 (g : Nat) (s : ByteArray) (i : Nat) (deep bad : Int) (w : World) (hs : s.size ≤ 64) (hp : PS w g s i deep bad) :
    Calls Tryd.prog 53 #[.pointer (some ⟨g, 0, none⟩), .int .u8 41] w fun e w' => e = .returned (.bool (pk s i 41)) ∧ ∃ n, w' = w.drewN n := peek_calls g s i deep bad 41 41 w rfl hs hp
theorem peek45 (g : Nat) (s : ByteArray) (i : Nat) (deep bad : Int) (w : World) (hs : s.size ≤ 64) (hp : PS w g s i deep bad) :
    Calls Tryd.prog 53 #[.pointer (some ⟨g, 0, none⟩), .int .u8 45] w fun e w' => e = .returned (.bool (pk s i 45)) ∧ ∃ n, w' = w.drewN n := peek_calls g s i deep bad 45 45 w rfl hs hp
theorem peek93 (g : Nat) (s : ByteArray) (i : Nat) (deep bad : Int) (w : World) (hs : s.size ≤ 64) (hp : PS w g s i deep bad) :
    Calls Tryd.prog 53 #[.pointer (some ⟨g, 0, none⟩), .int .u8 93] w fun e w' => e = .returned (.bool (pk s i 93)) ∧ ∃ n, w' = w.drewN n := peek_calls g s i deep bad 93 93 w rfl hs hp
theorem peek94 (g : Nat) (s : ByteArray) (i : Nat) (deep bad : Int) (w : World) (hs : s.size ≤ 64) (hp : PS w g s i deep bad) :
    Calls Tryd.prog 53 #[.pointer (some ⟨g, 0, none⟩), .int .u8 94] w fun e w' => e = .returned (.bool (pk s i 94)) ∧ ∃ n, w' = w.drewN n := peek_calls g s i deep bad 94 94 w rfl hs hp
theorem peek124 (g : Nat) (s : ByteArray) (i : Nat) (deep bad : Int) (w : World) (hs : s.size ≤ 64) (hp : PS w g s i deep bad) :
    Calls Tryd.prog 53 #[.pointer (some ⟨g, 0, none⟩), .int .u8 124] w fun e w' => e = .returned (.bool (pk s i 124)) ∧ ∃ n, w' = w.drewN n := peek_calls g s i deep bad 124 124 w rfl hs hp

set_option maxHeartbeats 4000000 in
/-- A class behind its bracket and its sign. -/
theorem class_any (neg : Bool) (g : Nat) (s : ByteArray) (i0 i : Nat) (deep : Int) (w : World) (hs : s.size ≤ 64) (hi : i ≤ s.size) (hp : PS w g s i0 deep 0)
    (hneg : if neg = true then (bys s)[i0]? = some 94 ∧ i = i0 + 1 else ¬ (bys s)[i0]? = some 94 ∧ i = i0) (R : Except Nat ((Nat → Bool) × Nat)) (hR : Rx.pItems (bys s) ((bys s).length + 1) i (fun _ => false) = R) :
    Calls Tryd.prog 77 #[.pointer (some ⟨g, 0, none⟩)] w (ClassRes g s deep w (Rx.clsOf neg R)) := by
  have hk : pk s i0 94 = neg := by cases neg <;> simp_all [pk]
  have hlt := hp.lt
  have h1 := hp.c1
  have f1 := hp.f 1
  have HR := Lib.hid hR
  clear hR
  cases neg with
  | false =>
    obtain rfl : i = i0 := by simpa using hneg.2
    clear hneg
    go_enter Tryd.func77, Tryd.ntmps77
    go_wp2_with (go_at_call 53; refine (peek_calls g s _ deep 0 94 _ _ rfl hs (hp.alloc _)).mono ?_; rintro e w1 ⟨rfl, n, rfl⟩)
    go_loopg [5] (s.size + 1) (fun k v wr => ∃ first, v = .bool first ∧ CInv g w.heap.size s deep w R k first wr)
    case atStart =>
      refine ⟨true, rfl, ((Chg.refl _ w).alloc _).drewN _, by simp, by omega, Nat.le_refl _, .inl ⟨i, _, fun _ => 0, (hp.alloc _).drewN _, hi, blk_new w _, SetV.zero, by omega, ?_⟩⟩
      rw [← HR.out, bys_len]; rfl
    case round =>
      obtain ⟨first, rfl, hchg, hn0, hng, hw0, hm⟩ := hrel
      obtain ⟨k0, rfl⟩ : ∃ m : Nat, m = gk := ⟨_, rfl⟩
      obtain ⟨wo, rfl⟩ : ∃ m : World, m = wr := ⟨_, rfl⟩
      clear h1 f1 hp hk n
      rcases hm with ⟨j, P, q, hp, hj, hn, hq, hfu, hL⟩ | ⟨hp, hL⟩
      · have c1 := hp.c1
        have c3 := hp.c3
        have f1 := hp.f 1
        have HL := Lib.hid hL
        clear hL
        cases first with
        | true =>
          obtain ⟨k1, rfl⟩ : ∃ m, k0 = m + 1 := ⟨k0 - 1, by omega⟩
          cases h1 : Rx.pOne (bys s) j with
          | error er =>
            obtain rfl := pOne_err h1
            have H1 := Lib.hid h1
            clear h1
            go_wp2_with (first | (go_at_call 81; ((with_reducible refine (one_err g s j deep _ hs (by omega) hp H1.out).mono ?_); rintro e w2 ⟨rfl, hp_w2, hc_w2⟩; have a1_w2 := hp_w2.c1; have a3_w2 := hp_w2.c3; have b1_w2 := hp_w2.f 1)) | (go_at_call 53; ((with_reducible refine (peek45 g s s.size deep 27 _ hs hp_w2).mono ?_); rintro e w3 ⟨rfl, n2, rfl⟩); have pe := pk_end s 45))
            refine wp_loop_rounds 1 ?_
            rw [rounds_succ]
            go_wp2
            go_roundg ((k1 + 1) - 1)
            case measure => omega
            case rel =>
              refine ⟨false, rfl, (hchg.trans hc_w2).drewN _, by have := hc_w2.size; simp at this ⊢; omega, by omega, Nat.le_refl _, .inr ⟨hp_w2.drewN _, ?_⟩⟩
              rw [← HL.out]
              simp only [cLoop, if_true, Rx.pItems, Rx.pItem]; rw [H1.out]
          | ok cj =>
            obtain ⟨c, j1⟩ := cj
            have hcb0 := pOne_lt h1
            have H1 := Lib.hid h1
            clear h1
            by_cases hd : (bys s)[j1]? = some 45
            · have hdl : j1 < s.size := by
                rcases Nat.lt_or_ge j1 s.size with h | h
                · exact h
                · rw [bys_ge s j1 h] at hd; cases hd
              have hkd : pk s j1 45 = true := by simp [pk, hd]
              have HD := Lib.hid hd
              clear hd
              cases h2 : Rx.pOne (bys s) (j1 + 1) with
              | error er =>
                obtain rfl := pOne_err h2
                have H2 := Lib.hid h2
                clear h2
                by_cases hc0 : 0 < c
                · have hc0' : (0 : Int) < c := by omega
                  go_wp2_with (first | (go_at_call 81; ((with_reducible refine (one_ok g s j deep _ hs (by omega) hp H1.out).mono ?_); rintro e w2 ⟨rfl, hp_w2, hcb, hjb, hc_w2⟩; have a1_w2 := hp_w2.c1; have a3_w2 := hp_w2.c3; have b1_w2 := hp_w2.f 1)) | (go_at_call 53; ((with_reducible refine (peek45 g s j1 deep 0 _ hs hp_w2).mono ?_); rintro e w3 ⟨rfl, n2, rfl⟩)) | (go_at_call 81; ((with_reducible refine (one_err g s (j1 + 1) deep _ hs (by omega) (((hp_w2.drewN _).set1 _).cast (by omega)) H2.out).mono ?_); rintro e w4 ⟨rfl, hp_w4, hc_w4⟩; have a1_w4 := hp_w4.c1; have a3_w4 := hp_w4.c3; have b1_w4 := hp_w4.f 1)) | (go_at_call 37; ((with_reducible refine (fail_calls g s _ deep 27 27 _ hs hp_w4).mono ?_); rintro e w6 ⟨⟨q6, rfl⟩, hp_w6, hc_w6⟩)))
                  go_ret
                  have hR2 : Rx.clsOf false R = .error 27 := by rw [← HL.out]; simp only [cLoop, if_true, Rx.pItems, Rx.pItem]; simp only [H1.out, if_pos HD.out, H2.out]; rfl
                  rw [hR2]
                  exact ⟨((((hchg.trans hc_w2).drewN _).setCell (p := ⟨g, 1, none⟩) (.inl rfl) _).trans hc_w4).trans hc_w6, ⟨_, rfl⟩, by simpa using hp_w6, rfl⟩
                · obtain rfl : c = 0 := by omega
                  clear hc0
                  go_wp2_with (first | (go_at_call 81; ((with_reducible refine (one_ok g s j deep _ hs (by omega) hp H1.out).mono ?_); rintro e w2 ⟨rfl, hp_w2, hcb, hjb, hc_w2⟩; have a1_w2 := hp_w2.c1; have a3_w2 := hp_w2.c3; have b1_w2 := hp_w2.f 1)) | (go_at_call 53; ((with_reducible refine (peek45 g s j1 deep 0 _ hs hp_w2).mono ?_); rintro e w3 ⟨rfl, n2, rfl⟩)) | (go_at_call 81; ((with_reducible refine (one_err g s (j1 + 1) deep _ hs (by omega) (((hp_w2.drewN _).set1 _).cast (by omega)) H2.out).mono ?_); rintro e w4 ⟨rfl, hp_w4, hc_w4⟩; have a1_w4 := hp_w4.c1; have a3_w4 := hp_w4.c3; have b1_w4 := hp_w4.f 1)))
                  refine wp_loop_rounds 1 ?_
                  rw [rounds_succ]
                  go_wp2
                  go_roundg ((k1 + 1) - 1)
                  case measure => omega
                  case rel =>
                    refine ⟨false, rfl, ((((hchg.trans hc_w2).drewN _).setCell (p := ⟨g, 1, none⟩) (.inl rfl) _).trans hc_w4), by have := hc_w2.size; have := hc_w4.size; simp [size_set] at *; omega, by omega, Nat.le_refl _, .inr ⟨hp_w4, ?_⟩⟩
                    rw [← HL.out]
                    simp only [cLoop, if_true, Rx.pItems, Rx.pItem]; simp only [H1.out, if_pos HD.out, H2.out]
              | ok cj =>
                obtain ⟨d, j2⟩ := cj
                have hdb0 := pOne_lt h2
                have H2 := Lib.hid h2
                clear h2
                by_cases hcd : d < c
                · have hcd' : (d : Int) < c := by omega
                  go_wp2_with (first | (go_at_call 81; ((with_reducible refine (one_ok g s j deep _ hs (by omega) hp H1.out).mono ?_); rintro e w2 ⟨rfl, hp_w2, hcb, hjb, hc_w2⟩; have a1_w2 := hp_w2.c1; have a3_w2 := hp_w2.c3; have b1_w2 := hp_w2.f 1)) | (go_at_call 53; ((with_reducible refine (peek45 g s j1 deep 0 _ hs hp_w2).mono ?_); rintro e w3 ⟨rfl, n2, rfl⟩)) | (go_at_call 81; ((with_reducible refine (one_ok g s (j1 + 1) deep _ hs (by omega) (((hp_w2.drewN _).set1 _).cast (by omega)) H2.out).mono ?_); rintro e w4 ⟨rfl, hp_w4, hcb, hjb, hc_w4⟩; have a1_w4 := hp_w4.c1; have a3_w4 := hp_w4.c3; have b1_w4 := hp_w4.f 1)) | (go_at_call 37; ((with_reducible refine (fail_calls g s _ deep 0 27 _ hs hp_w4).mono ?_); rintro e w6 ⟨⟨q6, rfl⟩, hp_w6, hc_w6⟩)))
                  go_ret
                  have hR2 : Rx.clsOf false R = .error 27 := by rw [← HL.out]; simp only [cLoop, if_true, Rx.pItems, Rx.pItem]; simp only [H1.out, if_pos HD.out, H2.out, if_pos hcd]; rfl
                  rw [hR2]
                  exact ⟨((((hchg.trans hc_w2).drewN _).setCell (p := ⟨g, 1, none⟩) (.inl rfl) _).trans hc_w4).trans hc_w6, ⟨_, rfl⟩, by simpa using hp_w6, rfl⟩
                · have hcd' : decide (d < c) = false := decide_eq_false hcd
                  go_wp2_with (first | (go_at_call 81; ((with_reducible refine (one_ok g s j deep _ hs (by omega) hp H1.out).mono ?_); rintro e w2 ⟨rfl, hp_w2, hcb, hjb, hc_w2⟩; have a1_w2 := hp_w2.c1; have a3_w2 := hp_w2.c3; have b1_w2 := hp_w2.f 1)) | (go_at_call 53; ((with_reducible refine (peek45 g s j1 deep 0 _ hs hp_w2).mono ?_); rintro e w3 ⟨rfl, n2, rfl⟩)) | (go_at_call 81; ((with_reducible refine (one_ok g s (j1 + 1) deep _ hs (by omega) (((hp_w2.drewN _).set1 _).cast (by omega)) H2.out).mono ?_); rintro e w4 ⟨rfl, hp_w4, hcb, hjb, hc_w4⟩; have a1_w4 := hp_w4.c1; have a3_w4 := hp_w4.c3; have b1_w4 := hp_w4.f 1)))
                  obtain ⟨B, hB1, hB2⟩ : ∃ B : Nat, d < B ∧ B ≤ d + 1 := ⟨d + 1, by omega, by omega⟩
                  go_loopg [8] (d + 1) (fun k v wr => ∃ x : Nat, v = .int .i64 x ∧ c ≤ x ∧ x + k = B + c ∧ x ≤ B ∧ ∃ q, NB wr w.heap.size 0 q (.slice none 0 0) ∧ SetV q (fun y => P y || (decide (c ≤ y) && decide (y < x))) ∧ PS wr g s (j2 : Nat) deep 0 ∧ Chg (· = g) w wr ∧ w.heap.size < wr.heap.size)
                  case atStart =>
                    exact ⟨c, rfl, Nat.le_refl _, by omega, by omega, q, (((((hn.chg hc_w2 (by first | omega | (simp; omega))).drewN _)).far (p := ⟨g, 1, none⟩) (by first | omega | (simp; omega)) _).chg hc_w4 (by first | omega | (simp; omega))), hq.start _, hp_w4, ((((hchg.trans hc_w2).drewN _).setCell (p := ⟨g, 1, none⟩) (.inl rfl) _).trans hc_w4), by have := hc_w2.size; have := hc_w4.size; simp [size_set] at *; omega⟩
                  case round =>
                    obtain ⟨x, rfl, hx0, hxk, hxB, q', hn', hq', hp', hc', hz'⟩ := hrel
                    have d3 := hp'.c3
                    clear hp
                    by_cases hxh : x ≤ d
                    · have hxi : (x : Int) ≤ (d : Int) := by omega
                      have hxb : (0 : Int) ≤ (x : Int) := by omega
                      have hxc : (x : Int) < 256 := by omega
                      go_wp2_with (go_at_call 79; refine (put_calls w.heap.size 0 q' _ _ x _ hxb hxc hn' hq').mono ?_; rintro e w3 ⟨rfl, q3, hn3, hq3, hc3, hz3⟩)
                      go_roundg (gk - 1)
                      case measure => omega
                      case rel => exact ⟨x + 1, by go_num, by omega, by omega, by omega, q3, hn3, hq3.step hx0, hp'.chg hc3 (by first | omega | (simp; omega)), hc'.trans' hc3 (fun k hk h => by first | omega | (simp at h; omega)), by omega⟩
                    · have hxi : decide ((x : Int) ≤ (d : Int)) = false := decide_eq_false (by omega)
                      go_wp2
                      go_roundg ((k1 + 1) - 1)
                      case measure => omega
                      case rel =>
                        have e1 : x = d + 1 := by omega
                        refine ⟨false, rfl, hc', hz', by omega, Nat.le_refl _, .inl ⟨j2, _, q', hp', by omega, hn', hq', by omega, ?_⟩⟩
                        rw [← HL.out]
                        simp only [cLoop, if_true, Rx.pItems, Rx.pItem]; simp only [H1.out, if_pos HD.out, H2.out, if_neg hcd]; subst e1; simp only [Nat.lt_succ_iff]; rfl
            · have hkd : pk s j1 45 = false := by simp [pk, hd]
              have HD := Lib.hid hd
              clear hd
              go_wp2_with (first | (go_at_call 81; ((with_reducible refine (one_ok g s j deep _ hs (by omega) hp H1.out).mono ?_); rintro e w2 ⟨rfl, hp_w2, hcb, hjb, hc_w2⟩; have a1_w2 := hp_w2.c1; have a3_w2 := hp_w2.c3; have b1_w2 := hp_w2.f 1)) | (go_at_call 53; ((with_reducible refine (peek45 g s j1 deep 0 _ hs hp_w2).mono ?_); rintro e w3 ⟨rfl, n2, rfl⟩)))
              obtain ⟨B, hB1, hB2⟩ : ∃ B : Nat, c < B ∧ B ≤ c + 1 := ⟨c + 1, by omega, by omega⟩
              go_loopg [8] (c + 1) (fun k v wr => ∃ x : Nat, v = .int .i64 x ∧ c ≤ x ∧ x + k = B + c ∧ x ≤ B ∧ ∃ q, NB wr w.heap.size 0 q (.slice none 0 0) ∧ SetV q (fun y => P y || (decide (c ≤ y) && decide (y < x))) ∧ PS wr g s (j1 : Nat) deep 0 ∧ Chg (· = g) w wr ∧ w.heap.size < wr.heap.size)
              case atStart =>
                exact ⟨c, rfl, Nat.le_refl _, by omega, by omega, q, ((hn.chg hc_w2 (by first | omega | (simp; omega))).drewN _), hq.start _, hp_w2.drewN _, (hchg.trans hc_w2).drewN _, by have := hc_w2.size; simp at this ⊢; omega⟩
              case round =>
                obtain ⟨x, rfl, hx0, hxk, hxB, q', hn', hq', hp', hc', hz'⟩ := hrel
                have d3 := hp'.c3
                clear hp
                by_cases hxh : x ≤ c
                · have hxi : (x : Int) ≤ (c : Int) := by omega
                  have hxb : (0 : Int) ≤ (x : Int) := by omega
                  have hxc : (x : Int) < 256 := by omega
                  go_wp2_with (go_at_call 79; refine (put_calls w.heap.size 0 q' _ _ x _ hxb hxc hn' hq').mono ?_; rintro e w3 ⟨rfl, q3, hn3, hq3, hc3, hz3⟩)
                  go_roundg (gk - 1)
                  case measure => omega
                  case rel => exact ⟨x + 1, by go_num, by omega, by omega, by omega, q3, hn3, hq3.step hx0, hp'.chg hc3 (by first | omega | (simp; omega)), hc'.trans' hc3 (fun k hk h => by first | omega | (simp at h; omega)), by omega⟩
                · have hxi : decide ((x : Int) ≤ (c : Int)) = false := decide_eq_false (by omega)
                  go_wp2
                  go_roundg ((k1 + 1) - 1)
                  case measure => omega
                  case rel =>
                    have e1 : x = c + 1 := by omega
                    refine ⟨false, rfl, hc', hz', by omega, Nat.le_refl _, .inl ⟨j1, _, q', hp', by omega, hn', hq', by omega, ?_⟩⟩
                    rw [← HL.out]
                    simp only [cLoop, if_true, Rx.pItems, Rx.pItem]; simp only [H1.out, if_neg HD.out]; subst e1; simp only [Nat.lt_succ_iff]; rfl
        | false =>
          by_cases hc : (bys s)[j]? = some 93
          · have hk : pk s j 93 = true := by simp [pk, hc]
            have HCL := Lib.hid (pk_lt hk)
            have HC := Lib.hid hc
            clear hc
            go_wp2_with (first | (go_at_call 53; ((with_reducible refine (peek93 g s j deep 0 _ hs hp).mono ?_); rintro e w1 ⟨rfl, n1, rfl⟩)) | (go_at_call 53; refine (peek_calls g s j deep 0 93 _ _ rfl hs (hp.drewN _)).mono ?_; rintro e w1 ⟨rfl, n2, rfl⟩))
            go_ret
            have hR2 : Rx.clsOf false R = .ok (.byte P, j + 1) := by rw [← HL.out]; simp [cLoop, HC.out, Rx.clsOf]
            rw [hR2]
            exact ⟨(((hchg.drewN _).setCell (p := ⟨g, 1, none⟩) (.inl rfl) _)), _, q, P, rfl, Nat.le_refl _, ((hn.drewN _).far (p := ⟨g, 1, none⟩) (by first | omega | (simp; omega)) _), hq, rfl, ((hp.drewN _).set1 _).cast (by omega), by have := HCL.out; omega⟩
          · have hk : pk s j 93 = false := by simp [pk, hc]
            have HC := Lib.hid hc
            clear hc
            obtain ⟨k1, rfl⟩ : ∃ m, k0 = m + 1 := ⟨k0 - 1, by omega⟩
            cases h1 : Rx.pOne (bys s) j with
            | error er =>
              obtain rfl := pOne_err h1
              have H1 := Lib.hid h1
              clear h1
              go_wp2_with (first | (go_at_call 53; ((with_reducible refine (peek93 g s j deep 0 _ hs hp).mono ?_); rintro e w1 ⟨rfl, n1, rfl⟩)) | (go_at_call 81; ((with_reducible refine (one_err g s j deep _ hs (by omega) (hp.drewN _) H1.out).mono ?_); rintro e w2 ⟨rfl, hp_w2, hc_w2⟩; have a1_w2 := hp_w2.c1; have a3_w2 := hp_w2.c3; have b1_w2 := hp_w2.f 1)) | (go_at_call 53; ((with_reducible refine (peek45 g s s.size deep 27 _ hs hp_w2).mono ?_); rintro e w3 ⟨rfl, n2, rfl⟩); have pe := pk_end s 45))
              refine wp_loop_rounds 1 ?_
              rw [rounds_succ]
              go_wp2
              go_roundg ((k1 + 1) - 1)
              case measure => omega
              case rel =>
                refine ⟨false, rfl, ((hchg.drewN _).trans hc_w2).drewN _, by have := hc_w2.size; simp at this ⊢; omega, by omega, Nat.le_refl _, .inr ⟨hp_w2.drewN _, ?_⟩⟩
                rw [← HL.out]
                simp only [cLoop, Bool.false_eq_true, if_false, if_neg HC.out, Rx.pItems, Rx.pItem]; rw [H1.out]
            | ok cj =>
              obtain ⟨c, j1⟩ := cj
              have hcb0 := pOne_lt h1
              have H1 := Lib.hid h1
              clear h1
              by_cases hd : (bys s)[j1]? = some 45
              · have hdl : j1 < s.size := by
                  rcases Nat.lt_or_ge j1 s.size with h | h
                  · exact h
                  · rw [bys_ge s j1 h] at hd; cases hd
                have hkd : pk s j1 45 = true := by simp [pk, hd]
                have HD := Lib.hid hd
                clear hd
                cases h2 : Rx.pOne (bys s) (j1 + 1) with
                | error er =>
                  obtain rfl := pOne_err h2
                  have H2 := Lib.hid h2
                  clear h2
                  by_cases hc0 : 0 < c
                  · have hc0' : (0 : Int) < c := by omega
                    go_wp2_with (first | (go_at_call 53; ((with_reducible refine (peek93 g s j deep 0 _ hs hp).mono ?_); rintro e w1 ⟨rfl, n1, rfl⟩)) | (go_at_call 81; ((with_reducible refine (one_ok g s j deep _ hs (by omega) (hp.drewN _) H1.out).mono ?_); rintro e w2 ⟨rfl, hp_w2, hcb, hjb, hc_w2⟩; have a1_w2 := hp_w2.c1; have a3_w2 := hp_w2.c3; have b1_w2 := hp_w2.f 1)) | (go_at_call 53; ((with_reducible refine (peek45 g s j1 deep 0 _ hs hp_w2).mono ?_); rintro e w3 ⟨rfl, n2, rfl⟩)) | (go_at_call 81; ((with_reducible refine (one_err g s (j1 + 1) deep _ hs (by omega) (((hp_w2.drewN _).set1 _).cast (by omega)) H2.out).mono ?_); rintro e w4 ⟨rfl, hp_w4, hc_w4⟩; have a1_w4 := hp_w4.c1; have a3_w4 := hp_w4.c3; have b1_w4 := hp_w4.f 1)) | (go_at_call 37; ((with_reducible refine (fail_calls g s _ deep 27 27 _ hs hp_w4).mono ?_); rintro e w6 ⟨⟨q6, rfl⟩, hp_w6, hc_w6⟩)))
                    go_ret
                    have hR2 : Rx.clsOf false R = .error 27 := by rw [← HL.out]; simp only [cLoop, Bool.false_eq_true, if_false, if_neg HC.out, Rx.pItems, Rx.pItem]; simp only [H1.out, if_pos HD.out, H2.out]; rfl
                    rw [hR2]
                    exact ⟨(((((hchg.drewN _).trans hc_w2).drewN _).setCell (p := ⟨g, 1, none⟩) (.inl rfl) _).trans hc_w4).trans hc_w6, ⟨_, rfl⟩, by simpa using hp_w6, rfl⟩
                  · obtain rfl : c = 0 := by omega
                    clear hc0
                    go_wp2_with (first | (go_at_call 53; ((with_reducible refine (peek93 g s j deep 0 _ hs hp).mono ?_); rintro e w1 ⟨rfl, n1, rfl⟩)) | (go_at_call 81; ((with_reducible refine (one_ok g s j deep _ hs (by omega) (hp.drewN _) H1.out).mono ?_); rintro e w2 ⟨rfl, hp_w2, hcb, hjb, hc_w2⟩; have a1_w2 := hp_w2.c1; have a3_w2 := hp_w2.c3; have b1_w2 := hp_w2.f 1)) | (go_at_call 53; ((with_reducible refine (peek45 g s j1 deep 0 _ hs hp_w2).mono ?_); rintro e w3 ⟨rfl, n2, rfl⟩)) | (go_at_call 81; ((with_reducible refine (one_err g s (j1 + 1) deep _ hs (by omega) (((hp_w2.drewN _).set1 _).cast (by omega)) H2.out).mono ?_); rintro e w4 ⟨rfl, hp_w4, hc_w4⟩; have a1_w4 := hp_w4.c1; have a3_w4 := hp_w4.c3; have b1_w4 := hp_w4.f 1)))
                    refine wp_loop_rounds 1 ?_
                    rw [rounds_succ]
                    go_wp2
                    go_roundg ((k1 + 1) - 1)
                    case measure => omega
                    case rel =>
                      refine ⟨false, rfl, (((((hchg.drewN _).trans hc_w2).drewN _).setCell (p := ⟨g, 1, none⟩) (.inl rfl) _).trans hc_w4), by have := hc_w2.size; have := hc_w4.size; simp [size_set] at *; omega, by omega, Nat.le_refl _, .inr ⟨hp_w4, ?_⟩⟩
                      rw [← HL.out]
                      simp only [cLoop, Bool.false_eq_true, if_false, if_neg HC.out, Rx.pItems, Rx.pItem]; simp only [H1.out, if_pos HD.out, H2.out]
                | ok cj =>
                  obtain ⟨d, j2⟩ := cj
                  have hdb0 := pOne_lt h2
                  have H2 := Lib.hid h2
                  clear h2
                  by_cases hcd : d < c
                  · have hcd' : (d : Int) < c := by omega
                    go_wp2_with (first | (go_at_call 53; ((with_reducible refine (peek93 g s j deep 0 _ hs hp).mono ?_); rintro e w1 ⟨rfl, n1, rfl⟩)) | (go_at_call 81; ((with_reducible refine (one_ok g s j deep _ hs (by omega) (hp.drewN _) H1.out).mono ?_); rintro e w2 ⟨rfl, hp_w2, hcb, hjb, hc_w2⟩; have a1_w2 := hp_w2.c1; have a3_w2 := hp_w2.c3; have b1_w2 := hp_w2.f 1)) | (go_at_call 53; ((with_reducible refine (peek45 g s j1 deep 0 _ hs hp_w2).mono ?_); rintro e w3 ⟨rfl, n2, rfl⟩)) | (go_at_call 81; ((with_reducible refine (one_ok g s (j1 + 1) deep _ hs (by omega) (((hp_w2.drewN _).set1 _).cast (by omega)) H2.out).mono ?_); rintro e w4 ⟨rfl, hp_w4, hcb, hjb, hc_w4⟩; have a1_w4 := hp_w4.c1; have a3_w4 := hp_w4.c3; have b1_w4 := hp_w4.f 1)) | (go_at_call 37; ((with_reducible refine (fail_calls g s _ deep 0 27 _ hs hp_w4).mono ?_); rintro e w6 ⟨⟨q6, rfl⟩, hp_w6, hc_w6⟩)))
                    go_ret
                    have hR2 : Rx.clsOf false R = .error 27 := by rw [← HL.out]; simp only [cLoop, Bool.false_eq_true, if_false, if_neg HC.out, Rx.pItems, Rx.pItem]; simp only [H1.out, if_pos HD.out, H2.out, if_pos hcd]; rfl
                    rw [hR2]
                    exact ⟨(((((hchg.drewN _).trans hc_w2).drewN _).setCell (p := ⟨g, 1, none⟩) (.inl rfl) _).trans hc_w4).trans hc_w6, ⟨_, rfl⟩, by simpa using hp_w6, rfl⟩
                  · have hcd' : decide (d < c) = false := decide_eq_false hcd
                    go_wp2_with (first | (go_at_call 53; ((with_reducible refine (peek93 g s j deep 0 _ hs hp).mono ?_); rintro e w1 ⟨rfl, n1, rfl⟩)) | (go_at_call 81; ((with_reducible refine (one_ok g s j deep _ hs (by omega) (hp.drewN _) H1.out).mono ?_); rintro e w2 ⟨rfl, hp_w2, hcb, hjb, hc_w2⟩; have a1_w2 := hp_w2.c1; have a3_w2 := hp_w2.c3; have b1_w2 := hp_w2.f 1)) | (go_at_call 53; ((with_reducible refine (peek45 g s j1 deep 0 _ hs hp_w2).mono ?_); rintro e w3 ⟨rfl, n2, rfl⟩)) | (go_at_call 81; ((with_reducible refine (one_ok g s (j1 + 1) deep _ hs (by omega) (((hp_w2.drewN _).set1 _).cast (by omega)) H2.out).mono ?_); rintro e w4 ⟨rfl, hp_w4, hcb, hjb, hc_w4⟩; have a1_w4 := hp_w4.c1; have a3_w4 := hp_w4.c3; have b1_w4 := hp_w4.f 1)))
                    obtain ⟨B, hB1, hB2⟩ : ∃ B : Nat, d < B ∧ B ≤ d + 1 := ⟨d + 1, by omega, by omega⟩
                    go_loopg [8] (d + 1) (fun k v wr => ∃ x : Nat, v = .int .i64 x ∧ c ≤ x ∧ x + k = B + c ∧ x ≤ B ∧ ∃ q, NB wr w.heap.size 0 q (.slice none 0 0) ∧ SetV q (fun y => P y || (decide (c ≤ y) && decide (y < x))) ∧ PS wr g s (j2 : Nat) deep 0 ∧ Chg (· = g) w wr ∧ w.heap.size < wr.heap.size)
                    case atStart =>
                      exact ⟨c, rfl, Nat.le_refl _, by omega, by omega, q, ((((((hn.drewN _).chg hc_w2 (by first | omega | (simp; omega))).drewN _)).far (p := ⟨g, 1, none⟩) (by first | omega | (simp; omega)) _).chg hc_w4 (by first | omega | (simp; omega))), hq.start _, hp_w4, (((((hchg.drewN _).trans hc_w2).drewN _).setCell (p := ⟨g, 1, none⟩) (.inl rfl) _).trans hc_w4), by have := hc_w2.size; have := hc_w4.size; simp [size_set] at *; omega⟩
                    case round =>
                      obtain ⟨x, rfl, hx0, hxk, hxB, q', hn', hq', hp', hc', hz'⟩ := hrel
                      have d3 := hp'.c3
                      clear hp
                      by_cases hxh : x ≤ d
                      · have hxi : (x : Int) ≤ (d : Int) := by omega
                        have hxb : (0 : Int) ≤ (x : Int) := by omega
                        have hxc : (x : Int) < 256 := by omega
                        go_wp2_with (go_at_call 79; refine (put_calls w.heap.size 0 q' _ _ x _ hxb hxc hn' hq').mono ?_; rintro e w3 ⟨rfl, q3, hn3, hq3, hc3, hz3⟩)
                        go_roundg (gk - 1)
                        case measure => omega
                        case rel => exact ⟨x + 1, by go_num, by omega, by omega, by omega, q3, hn3, hq3.step hx0, hp'.chg hc3 (by first | omega | (simp; omega)), hc'.trans' hc3 (fun k hk h => by first | omega | (simp at h; omega)), by omega⟩
                      · have hxi : decide ((x : Int) ≤ (d : Int)) = false := decide_eq_false (by omega)
                        go_wp2
                        go_roundg ((k1 + 1) - 1)
                        case measure => omega
                        case rel =>
                          have e1 : x = d + 1 := by omega
                          refine ⟨false, rfl, hc', hz', by omega, Nat.le_refl _, .inl ⟨j2, _, q', hp', by omega, hn', hq', by omega, ?_⟩⟩
                          rw [← HL.out]
                          simp only [cLoop, Bool.false_eq_true, if_false, if_neg HC.out, Rx.pItems, Rx.pItem]; simp only [H1.out, if_pos HD.out, H2.out, if_neg hcd]; subst e1; simp only [Nat.lt_succ_iff]; rfl
              · have hkd : pk s j1 45 = false := by simp [pk, hd]
                have HD := Lib.hid hd
                clear hd
                go_wp2_with (first | (go_at_call 53; ((with_reducible refine (peek93 g s j deep 0 _ hs hp).mono ?_); rintro e w1 ⟨rfl, n1, rfl⟩)) | (go_at_call 81; ((with_reducible refine (one_ok g s j deep _ hs (by omega) (hp.drewN _) H1.out).mono ?_); rintro e w2 ⟨rfl, hp_w2, hcb, hjb, hc_w2⟩; have a1_w2 := hp_w2.c1; have a3_w2 := hp_w2.c3; have b1_w2 := hp_w2.f 1)) | (go_at_call 53; ((with_reducible refine (peek45 g s j1 deep 0 _ hs hp_w2).mono ?_); rintro e w3 ⟨rfl, n2, rfl⟩)))
                obtain ⟨B, hB1, hB2⟩ : ∃ B : Nat, c < B ∧ B ≤ c + 1 := ⟨c + 1, by omega, by omega⟩
                go_loopg [8] (c + 1) (fun k v wr => ∃ x : Nat, v = .int .i64 x ∧ c ≤ x ∧ x + k = B + c ∧ x ≤ B ∧ ∃ q, NB wr w.heap.size 0 q (.slice none 0 0) ∧ SetV q (fun y => P y || (decide (c ≤ y) && decide (y < x))) ∧ PS wr g s (j1 : Nat) deep 0 ∧ Chg (· = g) w wr ∧ w.heap.size < wr.heap.size)
                case atStart =>
                  exact ⟨c, rfl, Nat.le_refl _, by omega, by omega, q, (((hn.drewN _).chg hc_w2 (by first | omega | (simp; omega))).drewN _), hq.start _, hp_w2.drewN _, ((hchg.drewN _).trans hc_w2).drewN _, by have := hc_w2.size; simp at this ⊢; omega⟩
                case round =>
                  obtain ⟨x, rfl, hx0, hxk, hxB, q', hn', hq', hp', hc', hz'⟩ := hrel
                  have d3 := hp'.c3
                  clear hp
                  by_cases hxh : x ≤ c
                  · have hxi : (x : Int) ≤ (c : Int) := by omega
                    have hxb : (0 : Int) ≤ (x : Int) := by omega
                    have hxc : (x : Int) < 256 := by omega
                    go_wp2_with (go_at_call 79; refine (put_calls w.heap.size 0 q' _ _ x _ hxb hxc hn' hq').mono ?_; rintro e w3 ⟨rfl, q3, hn3, hq3, hc3, hz3⟩)
                    go_roundg (gk - 1)
                    case measure => omega
                    case rel => exact ⟨x + 1, by go_num, by omega, by omega, by omega, q3, hn3, hq3.step hx0, hp'.chg hc3 (by first | omega | (simp; omega)), hc'.trans' hc3 (fun k hk h => by first | omega | (simp at h; omega)), by omega⟩
                  · have hxi : decide ((x : Int) ≤ (c : Int)) = false := decide_eq_false (by omega)
                    go_wp2
                    go_roundg ((k1 + 1) - 1)
                    case measure => omega
                    case rel =>
                      have e1 : x = c + 1 := by omega
                      refine ⟨false, rfl, hc', hz', by omega, Nat.le_refl _, .inl ⟨j1, _, q', hp', by omega, hn', hq', by omega, ?_⟩⟩
                      rw [← HL.out]
                      simp only [cLoop, Bool.false_eq_true, if_false, if_neg HC.out, Rx.pItems, Rx.pItem]; simp only [H1.out, if_neg HD.out]; subst e1; simp only [Nat.lt_succ_iff]; rfl
      · have c3 := hp.c3
        have pe := pk_end s 93
        have HL := Lib.hid hL
        clear hL
        go_wp2_with (first | (go_at_call 53; refine (peek_calls g s s.size deep 27 93 _ _ rfl hs hp).mono ?_; rintro e w1 ⟨rfl, n2, rfl⟩) | (go_at_call 37; refine (fail_calls g s _ deep 27 27 _ hs (hp.drewN _)).mono ?_; rintro e w2 ⟨⟨q, rfl⟩, hp2, hc2⟩))
        go_ret
        rw [HL.out]
        exact ⟨(hchg.drewN _).trans hc2, ⟨_, rfl⟩, by simpa using hp2, rfl⟩
  | true =>
    obtain rfl : i = i0 + 1 := by simpa using hneg.2
    clear hneg
    go_enter Tryd.func77, Tryd.ntmps77
    go_wp2_with (go_at_call 53; refine (peek_calls g s _ deep 0 94 _ _ rfl hs (hp.alloc _)).mono ?_; rintro e w1 ⟨rfl, n, rfl⟩)
    go_loopg [5] (s.size + 1) (fun k v wr => ∃ first, v = .bool first ∧ CInv g w.heap.size s deep w R k first wr)
    case atStart =>
      refine ⟨true, rfl, (((Chg.refl (· = g) w).alloc _).drewN _).setCell (p := ⟨g, 1, none⟩) (.inl rfl) _, by simp [size_set], by omega, Nat.le_refl _, .inl ⟨i0 + 1, _, fun _ => 0, (((hp.alloc _).drewN _).set1 _).cast (by omega), hi, NB.far (NB.drewN (q := fun _ => 0) (blk_new w _) _) (p := ⟨g, 1, none⟩) (by first | omega | (simp; omega)) _, SetV.zero, by omega, ?_⟩⟩
      rw [← HR.out, bys_len]; rfl
    case round =>
      obtain ⟨first, rfl, hchg, hn0, hng, hw0, hm⟩ := hrel
      obtain ⟨k0, rfl⟩ : ∃ m : Nat, m = gk := ⟨_, rfl⟩
      obtain ⟨wo, rfl⟩ : ∃ m : World, m = wr := ⟨_, rfl⟩
      clear h1 f1 hp hk n
      rcases hm with ⟨j, P, q, hp, hj, hn, hq, hfu, hL⟩ | ⟨hp, hL⟩
      · have c1 := hp.c1
        have c3 := hp.c3
        have f1 := hp.f 1
        have HL := Lib.hid hL
        clear hL
        cases first with
        | true =>
          obtain ⟨k1, rfl⟩ : ∃ m, k0 = m + 1 := ⟨k0 - 1, by omega⟩
          cases h1 : Rx.pOne (bys s) j with
          | error er =>
            obtain rfl := pOne_err h1
            have H1 := Lib.hid h1
            clear h1
            go_wp2_with (first | (go_at_call 81; ((with_reducible refine (one_err g s j deep _ hs (by omega) hp H1.out).mono ?_); rintro e w2 ⟨rfl, hp_w2, hc_w2⟩; have a1_w2 := hp_w2.c1; have a3_w2 := hp_w2.c3; have b1_w2 := hp_w2.f 1)) | (go_at_call 53; ((with_reducible refine (peek45 g s s.size deep 27 _ hs hp_w2).mono ?_); rintro e w3 ⟨rfl, n2, rfl⟩); have pe := pk_end s 45))
            refine wp_loop_rounds 1 ?_
            rw [rounds_succ]
            go_wp2
            go_roundg ((k1 + 1) - 1)
            case measure => omega
            case rel =>
              refine ⟨false, rfl, (hchg.trans hc_w2).drewN _, by have := hc_w2.size; simp at this ⊢; omega, by omega, Nat.le_refl _, .inr ⟨hp_w2.drewN _, ?_⟩⟩
              rw [← HL.out]
              simp only [cLoop, if_true, Rx.pItems, Rx.pItem]; rw [H1.out]
          | ok cj =>
            obtain ⟨c, j1⟩ := cj
            have hcb0 := pOne_lt h1
            have H1 := Lib.hid h1
            clear h1
            by_cases hd : (bys s)[j1]? = some 45
            · have hdl : j1 < s.size := by
                rcases Nat.lt_or_ge j1 s.size with h | h
                · exact h
                · rw [bys_ge s j1 h] at hd; cases hd
              have hkd : pk s j1 45 = true := by simp [pk, hd]
              have HD := Lib.hid hd
              clear hd
              cases h2 : Rx.pOne (bys s) (j1 + 1) with
              | error er =>
                obtain rfl := pOne_err h2
                have H2 := Lib.hid h2
                clear h2
                by_cases hc0 : 0 < c
                · have hc0' : (0 : Int) < c := by omega
                  go_wp2_with (first | (go_at_call 81; ((with_reducible refine (one_ok g s j deep _ hs (by omega) hp H1.out).mono ?_); rintro e w2 ⟨rfl, hp_w2, hcb, hjb, hc_w2⟩; have a1_w2 := hp_w2.c1; have a3_w2 := hp_w2.c3; have b1_w2 := hp_w2.f 1)) | (go_at_call 53; ((with_reducible refine (peek45 g s j1 deep 0 _ hs hp_w2).mono ?_); rintro e w3 ⟨rfl, n2, rfl⟩)) | (go_at_call 81; ((with_reducible refine (one_err g s (j1 + 1) deep _ hs (by omega) (((hp_w2.drewN _).set1 _).cast (by omega)) H2.out).mono ?_); rintro e w4 ⟨rfl, hp_w4, hc_w4⟩; have a1_w4 := hp_w4.c1; have a3_w4 := hp_w4.c3; have b1_w4 := hp_w4.f 1)) | (go_at_call 37; ((with_reducible refine (fail_calls g s _ deep 27 27 _ hs hp_w4).mono ?_); rintro e w6 ⟨⟨q6, rfl⟩, hp_w6, hc_w6⟩)))
                  go_ret
                  have hR2 : Rx.clsOf true R = .error 27 := by rw [← HL.out]; simp only [cLoop, if_true, Rx.pItems, Rx.pItem]; simp only [H1.out, if_pos HD.out, H2.out]; rfl
                  rw [hR2]
                  exact ⟨((((hchg.trans hc_w2).drewN _).setCell (p := ⟨g, 1, none⟩) (.inl rfl) _).trans hc_w4).trans hc_w6, ⟨_, rfl⟩, by simpa using hp_w6, rfl⟩
                · obtain rfl : c = 0 := by omega
                  clear hc0
                  go_wp2_with (first | (go_at_call 81; ((with_reducible refine (one_ok g s j deep _ hs (by omega) hp H1.out).mono ?_); rintro e w2 ⟨rfl, hp_w2, hcb, hjb, hc_w2⟩; have a1_w2 := hp_w2.c1; have a3_w2 := hp_w2.c3; have b1_w2 := hp_w2.f 1)) | (go_at_call 53; ((with_reducible refine (peek45 g s j1 deep 0 _ hs hp_w2).mono ?_); rintro e w3 ⟨rfl, n2, rfl⟩)) | (go_at_call 81; ((with_reducible refine (one_err g s (j1 + 1) deep _ hs (by omega) (((hp_w2.drewN _).set1 _).cast (by omega)) H2.out).mono ?_); rintro e w4 ⟨rfl, hp_w4, hc_w4⟩; have a1_w4 := hp_w4.c1; have a3_w4 := hp_w4.c3; have b1_w4 := hp_w4.f 1)))
                  refine wp_loop_rounds 1 ?_
                  rw [rounds_succ]
                  go_wp2
                  go_roundg ((k1 + 1) - 1)
                  case measure => omega
                  case rel =>
                    refine ⟨false, rfl, ((((hchg.trans hc_w2).drewN _).setCell (p := ⟨g, 1, none⟩) (.inl rfl) _).trans hc_w4), by have := hc_w2.size; have := hc_w4.size; simp [size_set] at *; omega, by omega, Nat.le_refl _, .inr ⟨hp_w4, ?_⟩⟩
                    rw [← HL.out]
                    simp only [cLoop, if_true, Rx.pItems, Rx.pItem]; simp only [H1.out, if_pos HD.out, H2.out]
              | ok cj =>
                obtain ⟨d, j2⟩ := cj
                have hdb0 := pOne_lt h2
                have H2 := Lib.hid h2
                clear h2
                by_cases hcd : d < c
                · have hcd' : (d : Int) < c := by omega
                  go_wp2_with (first | (go_at_call 81; ((with_reducible refine (one_ok g s j deep _ hs (by omega) hp H1.out).mono ?_); rintro e w2 ⟨rfl, hp_w2, hcb, hjb, hc_w2⟩; have a1_w2 := hp_w2.c1; have a3_w2 := hp_w2.c3; have b1_w2 := hp_w2.f 1)) | (go_at_call 53; ((with_reducible refine (peek45 g s j1 deep 0 _ hs hp_w2).mono ?_); rintro e w3 ⟨rfl, n2, rfl⟩)) | (go_at_call 81; ((with_reducible refine (one_ok g s (j1 + 1) deep _ hs (by omega) (((hp_w2.drewN _).set1 _).cast (by omega)) H2.out).mono ?_); rintro e w4 ⟨rfl, hp_w4, hcb, hjb, hc_w4⟩; have a1_w4 := hp_w4.c1; have a3_w4 := hp_w4.c3; have b1_w4 := hp_w4.f 1)) | (go_at_call 37; ((with_reducible refine (fail_calls g s _ deep 0 27 _ hs hp_w4).mono ?_); rintro e w6 ⟨⟨q6, rfl⟩, hp_w6, hc_w6⟩)))
                  go_ret
                  have hR2 : Rx.clsOf true R = .error 27 := by rw [← HL.out]; simp only [cLoop, if_true, Rx.pItems, Rx.pItem]; simp only [H1.out, if_pos HD.out, H2.out, if_pos hcd]; rfl
                  rw [hR2]
                  exact ⟨((((hchg.trans hc_w2).drewN _).setCell (p := ⟨g, 1, none⟩) (.inl rfl) _).trans hc_w4).trans hc_w6, ⟨_, rfl⟩, by simpa using hp_w6, rfl⟩
                · have hcd' : decide (d < c) = false := decide_eq_false hcd
                  go_wp2_with (first | (go_at_call 81; ((with_reducible refine (one_ok g s j deep _ hs (by omega) hp H1.out).mono ?_); rintro e w2 ⟨rfl, hp_w2, hcb, hjb, hc_w2⟩; have a1_w2 := hp_w2.c1; have a3_w2 := hp_w2.c3; have b1_w2 := hp_w2.f 1)) | (go_at_call 53; ((with_reducible refine (peek45 g s j1 deep 0 _ hs hp_w2).mono ?_); rintro e w3 ⟨rfl, n2, rfl⟩)) | (go_at_call 81; ((with_reducible refine (one_ok g s (j1 + 1) deep _ hs (by omega) (((hp_w2.drewN _).set1 _).cast (by omega)) H2.out).mono ?_); rintro e w4 ⟨rfl, hp_w4, hcb, hjb, hc_w4⟩; have a1_w4 := hp_w4.c1; have a3_w4 := hp_w4.c3; have b1_w4 := hp_w4.f 1)))
                  obtain ⟨B, hB1, hB2⟩ : ∃ B : Nat, d < B ∧ B ≤ d + 1 := ⟨d + 1, by omega, by omega⟩
                  go_loopg [8] (d + 1) (fun k v wr => ∃ x : Nat, v = .int .i64 x ∧ c ≤ x ∧ x + k = B + c ∧ x ≤ B ∧ ∃ q, NB wr w.heap.size 0 q (.slice none 0 0) ∧ SetV q (fun y => P y || (decide (c ≤ y) && decide (y < x))) ∧ PS wr g s (j2 : Nat) deep 0 ∧ Chg (· = g) w wr ∧ w.heap.size < wr.heap.size)
                  case atStart =>
                    exact ⟨c, rfl, Nat.le_refl _, by omega, by omega, q, (((((hn.chg hc_w2 (by first | omega | (simp; omega))).drewN _)).far (p := ⟨g, 1, none⟩) (by first | omega | (simp; omega)) _).chg hc_w4 (by first | omega | (simp; omega))), hq.start _, hp_w4, ((((hchg.trans hc_w2).drewN _).setCell (p := ⟨g, 1, none⟩) (.inl rfl) _).trans hc_w4), by have := hc_w2.size; have := hc_w4.size; simp [size_set] at *; omega⟩
                  case round =>
                    obtain ⟨x, rfl, hx0, hxk, hxB, q', hn', hq', hp', hc', hz'⟩ := hrel
                    have d3 := hp'.c3
                    clear hp
                    by_cases hxh : x ≤ d
                    · have hxi : (x : Int) ≤ (d : Int) := by omega
                      have hxb : (0 : Int) ≤ (x : Int) := by omega
                      have hxc : (x : Int) < 256 := by omega
                      go_wp2_with (go_at_call 79; refine (put_calls w.heap.size 0 q' _ _ x _ hxb hxc hn' hq').mono ?_; rintro e w3 ⟨rfl, q3, hn3, hq3, hc3, hz3⟩)
                      go_roundg (gk - 1)
                      case measure => omega
                      case rel => exact ⟨x + 1, by go_num, by omega, by omega, by omega, q3, hn3, hq3.step hx0, hp'.chg hc3 (by first | omega | (simp; omega)), hc'.trans' hc3 (fun k hk h => by first | omega | (simp at h; omega)), by omega⟩
                    · have hxi : decide ((x : Int) ≤ (d : Int)) = false := decide_eq_false (by omega)
                      go_wp2
                      go_roundg ((k1 + 1) - 1)
                      case measure => omega
                      case rel =>
                        have e1 : x = d + 1 := by omega
                        refine ⟨false, rfl, hc', hz', by omega, Nat.le_refl _, .inl ⟨j2, _, q', hp', by omega, hn', hq', by omega, ?_⟩⟩
                        rw [← HL.out]
                        simp only [cLoop, if_true, Rx.pItems, Rx.pItem]; simp only [H1.out, if_pos HD.out, H2.out, if_neg hcd]; subst e1; simp only [Nat.lt_succ_iff]; rfl
            · have hkd : pk s j1 45 = false := by simp [pk, hd]
              have HD := Lib.hid hd
              clear hd
              go_wp2_with (first | (go_at_call 81; ((with_reducible refine (one_ok g s j deep _ hs (by omega) hp H1.out).mono ?_); rintro e w2 ⟨rfl, hp_w2, hcb, hjb, hc_w2⟩; have a1_w2 := hp_w2.c1; have a3_w2 := hp_w2.c3; have b1_w2 := hp_w2.f 1)) | (go_at_call 53; ((with_reducible refine (peek45 g s j1 deep 0 _ hs hp_w2).mono ?_); rintro e w3 ⟨rfl, n2, rfl⟩)))
              obtain ⟨B, hB1, hB2⟩ : ∃ B : Nat, c < B ∧ B ≤ c + 1 := ⟨c + 1, by omega, by omega⟩
              go_loopg [8] (c + 1) (fun k v wr => ∃ x : Nat, v = .int .i64 x ∧ c ≤ x ∧ x + k = B + c ∧ x ≤ B ∧ ∃ q, NB wr w.heap.size 0 q (.slice none 0 0) ∧ SetV q (fun y => P y || (decide (c ≤ y) && decide (y < x))) ∧ PS wr g s (j1 : Nat) deep 0 ∧ Chg (· = g) w wr ∧ w.heap.size < wr.heap.size)
              case atStart =>
                exact ⟨c, rfl, Nat.le_refl _, by omega, by omega, q, ((hn.chg hc_w2 (by first | omega | (simp; omega))).drewN _), hq.start _, hp_w2.drewN _, (hchg.trans hc_w2).drewN _, by have := hc_w2.size; simp at this ⊢; omega⟩
              case round =>
                obtain ⟨x, rfl, hx0, hxk, hxB, q', hn', hq', hp', hc', hz'⟩ := hrel
                have d3 := hp'.c3
                clear hp
                by_cases hxh : x ≤ c
                · have hxi : (x : Int) ≤ (c : Int) := by omega
                  have hxb : (0 : Int) ≤ (x : Int) := by omega
                  have hxc : (x : Int) < 256 := by omega
                  go_wp2_with (go_at_call 79; refine (put_calls w.heap.size 0 q' _ _ x _ hxb hxc hn' hq').mono ?_; rintro e w3 ⟨rfl, q3, hn3, hq3, hc3, hz3⟩)
                  go_roundg (gk - 1)
                  case measure => omega
                  case rel => exact ⟨x + 1, by go_num, by omega, by omega, by omega, q3, hn3, hq3.step hx0, hp'.chg hc3 (by first | omega | (simp; omega)), hc'.trans' hc3 (fun k hk h => by first | omega | (simp at h; omega)), by omega⟩
                · have hxi : decide ((x : Int) ≤ (c : Int)) = false := decide_eq_false (by omega)
                  go_wp2
                  go_roundg ((k1 + 1) - 1)
                  case measure => omega
                  case rel =>
                    have e1 : x = c + 1 := by omega
                    refine ⟨false, rfl, hc', hz', by omega, Nat.le_refl _, .inl ⟨j1, _, q', hp', by omega, hn', hq', by omega, ?_⟩⟩
                    rw [← HL.out]
                    simp only [cLoop, if_true, Rx.pItems, Rx.pItem]; simp only [H1.out, if_neg HD.out]; subst e1; simp only [Nat.lt_succ_iff]; rfl
        | false =>
          by_cases hc : (bys s)[j]? = some 93
          · have hk : pk s j 93 = true := by simp [pk, hc]
            have HCL := Lib.hid (pk_lt hk)
            have HC := Lib.hid hc
            clear hc
            have vr := fun (W : World) (n : Nat) (x : Value) (hW : W = (wo.drewN n).setCell ⟨g, 1, none⟩ x) => hW ▸ ((hn.drewN n).far (p := ⟨g, 1, none⟩) (by first | omega | (simp; omega)) x)
            have HN := Lib.hid vr
            clear vr
            have HLT := Lib.hid (blk_lt hn)
            go_wp2_with (first | (go_at_call 53; ((with_reducible refine (peek93 g s j deep 0 _ hs hp).mono ?_); rintro e w1 ⟨rfl, n1, rfl⟩)) | (go_at_call 53; ((with_reducible refine (peek93 g s j deep 0 _ hs (hp.drewN _)).mono ?_); rintro e w1 ⟨rfl, n2, rfl⟩)) | ((refine wpList_load_mid rfl _ (.tmp 90) rfl w.heap.size 1 rfl [.int .u64 (q 0), .int .u64 (q 1), .int .u64 (q 2), .int .u64 (q 3)] _ (HN.out _ _ _ rfl).range Tryd.underlying86 rfl (by kernel_rfl) ?_)) | (go_at_call 78; ((with_reducible refine (turn_calls q P _ hq).mono ?_); rintro e w5 ⟨q5, rfl, hq5, hb5⟩); have hN := (HN.out _ _ _ rfl).chg (Chg.of_below (M := fun _ => False) hb5) id; have v1 := hN.w1; have v2 := hN.w2; have v3 := hN.w3; have v4 := hN.w4; have u1 := hN.f 1; have u2 := hN.f 2; have u3 := hN.f 3; have u4 := hN.f 4))
            go_ret
            have hR2 : Rx.clsOf true R = .ok (.byte (fun c => !P c), j + 1) := by rw [← HL.out]; simp [cLoop, HC.out, Rx.clsOf]
            rw [hR2]
            exact ⟨((((((((hchg.drewN _).setCell (p := ⟨g, 1, none⟩) (.inl rfl) _).trans (Chg.of_below hb5)).setCell (p := ⟨w.heap.size, 1, none⟩) (.inr (Nat.le_refl _)) _).setCell (p := ⟨w.heap.size, 2, none⟩) (.inr (Nat.le_refl _)) _).setCell (p := ⟨w.heap.size, 3, none⟩) (.inr (Nat.le_refl _)) _).setCell (p := ⟨w.heap.size, 4, none⟩) (.inr (Nat.le_refl _)) _)), _, q5, _, rfl, Nat.le_refl _, hN.setAll q5, hq5, rfl,
              PS.cast (PS.far (PS.far (PS.far (PS.far (((hp.drewN _).set1 _).chg (Chg.of_below (M := fun _ => False) hb5) id) (by first | omega | (simp; omega)) _) (by first | omega | (simp; omega)) _) (by first | omega | (simp; omega)) _) (by first | omega | (simp; omega)) _) (by omega), by have := HCL.out; omega⟩
          · have hk : pk s j 93 = false := by simp [pk, hc]
            have HC := Lib.hid hc
            clear hc
            obtain ⟨k1, rfl⟩ : ∃ m, k0 = m + 1 := ⟨k0 - 1, by omega⟩
            cases h1 : Rx.pOne (bys s) j with
            | error er =>
              obtain rfl := pOne_err h1
              have H1 := Lib.hid h1
              clear h1
              go_wp2_with (first | (go_at_call 53; ((with_reducible refine (peek93 g s j deep 0 _ hs hp).mono ?_); rintro e w1 ⟨rfl, n1, rfl⟩)) | (go_at_call 81; ((with_reducible refine (one_err g s j deep _ hs (by omega) (hp.drewN _) H1.out).mono ?_); rintro e w2 ⟨rfl, hp_w2, hc_w2⟩; have a1_w2 := hp_w2.c1; have a3_w2 := hp_w2.c3; have b1_w2 := hp_w2.f 1)) | (go_at_call 53; ((with_reducible refine (peek45 g s s.size deep 27 _ hs hp_w2).mono ?_); rintro e w3 ⟨rfl, n2, rfl⟩); have pe := pk_end s 45))
              refine wp_loop_rounds 1 ?_
              rw [rounds_succ]
              go_wp2
              go_roundg ((k1 + 1) - 1)
              case measure => omega
              case rel =>
                refine ⟨false, rfl, ((hchg.drewN _).trans hc_w2).drewN _, by have := hc_w2.size; simp at this ⊢; omega, by omega, Nat.le_refl _, .inr ⟨hp_w2.drewN _, ?_⟩⟩
                rw [← HL.out]
                simp only [cLoop, Bool.false_eq_true, if_false, if_neg HC.out, Rx.pItems, Rx.pItem]; rw [H1.out]
            | ok cj =>
              obtain ⟨c, j1⟩ := cj
              have hcb0 := pOne_lt h1
              have H1 := Lib.hid h1
              clear h1
              by_cases hd : (bys s)[j1]? = some 45
              · have hdl : j1 < s.size := by
                  rcases Nat.lt_or_ge j1 s.size with h | h
                  · exact h
                  · rw [bys_ge s j1 h] at hd; cases hd
                have hkd : pk s j1 45 = true := by simp [pk, hd]
                have HD := Lib.hid hd
                clear hd
                cases h2 : Rx.pOne (bys s) (j1 + 1) with
                | error er =>
                  obtain rfl := pOne_err h2
                  have H2 := Lib.hid h2
                  clear h2
                  by_cases hc0 : 0 < c
                  · have hc0' : (0 : Int) < c := by omega
                    go_wp2_with (first | (go_at_call 53; ((with_reducible refine (peek93 g s j deep 0 _ hs hp).mono ?_); rintro e w1 ⟨rfl, n1, rfl⟩)) | (go_at_call 81; ((with_reducible refine (one_ok g s j deep _ hs (by omega) (hp.drewN _) H1.out).mono ?_); rintro e w2 ⟨rfl, hp_w2, hcb, hjb, hc_w2⟩; have a1_w2 := hp_w2.c1; have a3_w2 := hp_w2.c3; have b1_w2 := hp_w2.f 1)) | (go_at_call 53; ((with_reducible refine (peek45 g s j1 deep 0 _ hs hp_w2).mono ?_); rintro e w3 ⟨rfl, n2, rfl⟩)) | (go_at_call 81; ((with_reducible refine (one_err g s (j1 + 1) deep _ hs (by omega) (((hp_w2.drewN _).set1 _).cast (by omega)) H2.out).mono ?_); rintro e w4 ⟨rfl, hp_w4, hc_w4⟩; have a1_w4 := hp_w4.c1; have a3_w4 := hp_w4.c3; have b1_w4 := hp_w4.f 1)) | (go_at_call 37; ((with_reducible refine (fail_calls g s _ deep 27 27 _ hs hp_w4).mono ?_); rintro e w6 ⟨⟨q6, rfl⟩, hp_w6, hc_w6⟩)))
                    go_ret
                    have hR2 : Rx.clsOf true R = .error 27 := by rw [← HL.out]; simp only [cLoop, Bool.false_eq_true, if_false, if_neg HC.out, Rx.pItems, Rx.pItem]; simp only [H1.out, if_pos HD.out, H2.out]; rfl
                    rw [hR2]
                    exact ⟨(((((hchg.drewN _).trans hc_w2).drewN _).setCell (p := ⟨g, 1, none⟩) (.inl rfl) _).trans hc_w4).trans hc_w6, ⟨_, rfl⟩, by simpa using hp_w6, rfl⟩
                  · obtain rfl : c = 0 := by omega
                    clear hc0
                    go_wp2_with (first | (go_at_call 53; ((with_reducible refine (peek93 g s j deep 0 _ hs hp).mono ?_); rintro e w1 ⟨rfl, n1, rfl⟩)) | (go_at_call 81; ((with_reducible refine (one_ok g s j deep _ hs (by omega) (hp.drewN _) H1.out).mono ?_); rintro e w2 ⟨rfl, hp_w2, hcb, hjb, hc_w2⟩; have a1_w2 := hp_w2.c1; have a3_w2 := hp_w2.c3; have b1_w2 := hp_w2.f 1)) | (go_at_call 53; ((with_reducible refine (peek45 g s j1 deep 0 _ hs hp_w2).mono ?_); rintro e w3 ⟨rfl, n2, rfl⟩)) | (go_at_call 81; ((with_reducible refine (one_err g s (j1 + 1) deep _ hs (by omega) (((hp_w2.drewN _).set1 _).cast (by omega)) H2.out).mono ?_); rintro e w4 ⟨rfl, hp_w4, hc_w4⟩; have a1_w4 := hp_w4.c1; have a3_w4 := hp_w4.c3; have b1_w4 := hp_w4.f 1)))
                    refine wp_loop_rounds 1 ?_
                    rw [rounds_succ]
                    go_wp2
                    go_roundg ((k1 + 1) - 1)
                    case measure => omega
                    case rel =>
                      refine ⟨false, rfl, (((((hchg.drewN _).trans hc_w2).drewN _).setCell (p := ⟨g, 1, none⟩) (.inl rfl) _).trans hc_w4), by have := hc_w2.size; have := hc_w4.size; simp [size_set] at *; omega, by omega, Nat.le_refl _, .inr ⟨hp_w4, ?_⟩⟩
                      rw [← HL.out]
                      simp only [cLoop, Bool.false_eq_true, if_false, if_neg HC.out, Rx.pItems, Rx.pItem]; simp only [H1.out, if_pos HD.out, H2.out]
                | ok cj =>
                  obtain ⟨d, j2⟩ := cj
                  have hdb0 := pOne_lt h2
                  have H2 := Lib.hid h2
                  clear h2
                  by_cases hcd : d < c
                  · have hcd' : (d : Int) < c := by omega
                    go_wp2_with (first | (go_at_call 53; ((with_reducible refine (peek93 g s j deep 0 _ hs hp).mono ?_); rintro e w1 ⟨rfl, n1, rfl⟩)) | (go_at_call 81; ((with_reducible refine (one_ok g s j deep _ hs (by omega) (hp.drewN _) H1.out).mono ?_); rintro e w2 ⟨rfl, hp_w2, hcb, hjb, hc_w2⟩; have a1_w2 := hp_w2.c1; have a3_w2 := hp_w2.c3; have b1_w2 := hp_w2.f 1)) | (go_at_call 53; ((with_reducible refine (peek45 g s j1 deep 0 _ hs hp_w2).mono ?_); rintro e w3 ⟨rfl, n2, rfl⟩)) | (go_at_call 81; ((with_reducible refine (one_ok g s (j1 + 1) deep _ hs (by omega) (((hp_w2.drewN _).set1 _).cast (by omega)) H2.out).mono ?_); rintro e w4 ⟨rfl, hp_w4, hcb, hjb, hc_w4⟩; have a1_w4 := hp_w4.c1; have a3_w4 := hp_w4.c3; have b1_w4 := hp_w4.f 1)) | (go_at_call 37; ((with_reducible refine (fail_calls g s _ deep 0 27 _ hs hp_w4).mono ?_); rintro e w6 ⟨⟨q6, rfl⟩, hp_w6, hc_w6⟩)))
                    go_ret
                    have hR2 : Rx.clsOf true R = .error 27 := by rw [← HL.out]; simp only [cLoop, Bool.false_eq_true, if_false, if_neg HC.out, Rx.pItems, Rx.pItem]; simp only [H1.out, if_pos HD.out, H2.out, if_pos hcd]; rfl
                    rw [hR2]
                    exact ⟨(((((hchg.drewN _).trans hc_w2).drewN _).setCell (p := ⟨g, 1, none⟩) (.inl rfl) _).trans hc_w4).trans hc_w6, ⟨_, rfl⟩, by simpa using hp_w6, rfl⟩
                  · have hcd' : decide (d < c) = false := decide_eq_false hcd
                    go_wp2_with (first | (go_at_call 53; ((with_reducible refine (peek93 g s j deep 0 _ hs hp).mono ?_); rintro e w1 ⟨rfl, n1, rfl⟩)) | (go_at_call 81; ((with_reducible refine (one_ok g s j deep _ hs (by omega) (hp.drewN _) H1.out).mono ?_); rintro e w2 ⟨rfl, hp_w2, hcb, hjb, hc_w2⟩; have a1_w2 := hp_w2.c1; have a3_w2 := hp_w2.c3; have b1_w2 := hp_w2.f 1)) | (go_at_call 53; ((with_reducible refine (peek45 g s j1 deep 0 _ hs hp_w2).mono ?_); rintro e w3 ⟨rfl, n2, rfl⟩)) | (go_at_call 81; ((with_reducible refine (one_ok g s (j1 + 1) deep _ hs (by omega) (((hp_w2.drewN _).set1 _).cast (by omega)) H2.out).mono ?_); rintro e w4 ⟨rfl, hp_w4, hcb, hjb, hc_w4⟩; have a1_w4 := hp_w4.c1; have a3_w4 := hp_w4.c3; have b1_w4 := hp_w4.f 1)))
                    obtain ⟨B, hB1, hB2⟩ : ∃ B : Nat, d < B ∧ B ≤ d + 1 := ⟨d + 1, by omega, by omega⟩
                    go_loopg [8] (d + 1) (fun k v wr => ∃ x : Nat, v = .int .i64 x ∧ c ≤ x ∧ x + k = B + c ∧ x ≤ B ∧ ∃ q, NB wr w.heap.size 0 q (.slice none 0 0) ∧ SetV q (fun y => P y || (decide (c ≤ y) && decide (y < x))) ∧ PS wr g s (j2 : Nat) deep 0 ∧ Chg (· = g) w wr ∧ w.heap.size < wr.heap.size)
                    case atStart =>
                      exact ⟨c, rfl, Nat.le_refl _, by omega, by omega, q, ((((((hn.drewN _).chg hc_w2 (by first | omega | (simp; omega))).drewN _)).far (p := ⟨g, 1, none⟩) (by first | omega | (simp; omega)) _).chg hc_w4 (by first | omega | (simp; omega))), hq.start _, hp_w4, (((((hchg.drewN _).trans hc_w2).drewN _).setCell (p := ⟨g, 1, none⟩) (.inl rfl) _).trans hc_w4), by have := hc_w2.size; have := hc_w4.size; simp [size_set] at *; omega⟩
                    case round =>
                      obtain ⟨x, rfl, hx0, hxk, hxB, q', hn', hq', hp', hc', hz'⟩ := hrel
                      have d3 := hp'.c3
                      clear hp
                      by_cases hxh : x ≤ d
                      · have hxi : (x : Int) ≤ (d : Int) := by omega
                        have hxb : (0 : Int) ≤ (x : Int) := by omega
                        have hxc : (x : Int) < 256 := by omega
                        go_wp2_with (go_at_call 79; refine (put_calls w.heap.size 0 q' _ _ x _ hxb hxc hn' hq').mono ?_; rintro e w3 ⟨rfl, q3, hn3, hq3, hc3, hz3⟩)
                        go_roundg (gk - 1)
                        case measure => omega
                        case rel => exact ⟨x + 1, by go_num, by omega, by omega, by omega, q3, hn3, hq3.step hx0, hp'.chg hc3 (by first | omega | (simp; omega)), hc'.trans' hc3 (fun k hk h => by first | omega | (simp at h; omega)), by omega⟩
                      · have hxi : decide ((x : Int) ≤ (d : Int)) = false := decide_eq_false (by omega)
                        go_wp2
                        go_roundg ((k1 + 1) - 1)
                        case measure => omega
                        case rel =>
                          have e1 : x = d + 1 := by omega
                          refine ⟨false, rfl, hc', hz', by omega, Nat.le_refl _, .inl ⟨j2, _, q', hp', by omega, hn', hq', by omega, ?_⟩⟩
                          rw [← HL.out]
                          simp only [cLoop, Bool.false_eq_true, if_false, if_neg HC.out, Rx.pItems, Rx.pItem]; simp only [H1.out, if_pos HD.out, H2.out, if_neg hcd]; subst e1; simp only [Nat.lt_succ_iff]; rfl
              · have hkd : pk s j1 45 = false := by simp [pk, hd]
                have HD := Lib.hid hd
                clear hd
                go_wp2_with (first | (go_at_call 53; ((with_reducible refine (peek93 g s j deep 0 _ hs hp).mono ?_); rintro e w1 ⟨rfl, n1, rfl⟩)) | (go_at_call 81; ((with_reducible refine (one_ok g s j deep _ hs (by omega) (hp.drewN _) H1.out).mono ?_); rintro e w2 ⟨rfl, hp_w2, hcb, hjb, hc_w2⟩; have a1_w2 := hp_w2.c1; have a3_w2 := hp_w2.c3; have b1_w2 := hp_w2.f 1)) | (go_at_call 53; ((with_reducible refine (peek45 g s j1 deep 0 _ hs hp_w2).mono ?_); rintro e w3 ⟨rfl, n2, rfl⟩)))
                obtain ⟨B, hB1, hB2⟩ : ∃ B : Nat, c < B ∧ B ≤ c + 1 := ⟨c + 1, by omega, by omega⟩
                go_loopg [8] (c + 1) (fun k v wr => ∃ x : Nat, v = .int .i64 x ∧ c ≤ x ∧ x + k = B + c ∧ x ≤ B ∧ ∃ q, NB wr w.heap.size 0 q (.slice none 0 0) ∧ SetV q (fun y => P y || (decide (c ≤ y) && decide (y < x))) ∧ PS wr g s (j1 : Nat) deep 0 ∧ Chg (· = g) w wr ∧ w.heap.size < wr.heap.size)
                case atStart =>
                  exact ⟨c, rfl, Nat.le_refl _, by omega, by omega, q, (((hn.drewN _).chg hc_w2 (by first | omega | (simp; omega))).drewN _), hq.start _, hp_w2.drewN _, ((hchg.drewN _).trans hc_w2).drewN _, by have := hc_w2.size; simp at this ⊢; omega⟩
                case round =>
                  obtain ⟨x, rfl, hx0, hxk, hxB, q', hn', hq', hp', hc', hz'⟩ := hrel
                  have d3 := hp'.c3
                  clear hp
                  by_cases hxh : x ≤ c
                  · have hxi : (x : Int) ≤ (c : Int) := by omega
                    have hxb : (0 : Int) ≤ (x : Int) := by omega
                    have hxc : (x : Int) < 256 := by omega
                    go_wp2_with (go_at_call 79; refine (put_calls w.heap.size 0 q' _ _ x _ hxb hxc hn' hq').mono ?_; rintro e w3 ⟨rfl, q3, hn3, hq3, hc3, hz3⟩)
                    go_roundg (gk - 1)
                    case measure => omega
                    case rel => exact ⟨x + 1, by go_num, by omega, by omega, by omega, q3, hn3, hq3.step hx0, hp'.chg hc3 (by first | omega | (simp; omega)), hc'.trans' hc3 (fun k hk h => by first | omega | (simp at h; omega)), by omega⟩
                  · have hxi : decide ((x : Int) ≤ (c : Int)) = false := decide_eq_false (by omega)
                    go_wp2
                    go_roundg ((k1 + 1) - 1)
                    case measure => omega
                    case rel =>
                      have e1 : x = c + 1 := by omega
                      refine ⟨false, rfl, hc', hz', by omega, Nat.le_refl _, .inl ⟨j1, _, q', hp', by omega, hn', hq', by omega, ?_⟩⟩
                      rw [← HL.out]
                      simp only [cLoop, Bool.false_eq_true, if_false, if_neg HC.out, Rx.pItems, Rx.pItem]; simp only [H1.out, if_neg HD.out]; subst e1; simp only [Nat.lt_succ_iff]; rfl
      · have c3 := hp.c3
        have pe := pk_end s 93
        have HL := Lib.hid hL
        clear hL
        go_wp2_with (first | (go_at_call 53; refine (peek_calls g s s.size deep 27 93 _ _ rfl hs hp).mono ?_; rintro e w1 ⟨rfl, n2, rfl⟩) | (go_at_call 37; refine (fail_calls g s _ deep 27 27 _ hs (hp.drewN _)).mono ?_; rintro e w2 ⟨⟨q, rfl⟩, hp2, hc2⟩))
        go_ret
        rw [HL.out]
        exact ⟨(hchg.drewN _).trans hc2, ⟨_, rfl⟩, by simpa using hp2, rfl⟩

/-- class: behind its bracket. -/
theorem class_calls (g : Nat) (s : ByteArray) (i : Nat) (deep : Int) (w : World) (hs : s.size ≤ 64) (hi : i ≤ s.size) (hp : PS w g s i deep 0) :
    Calls Tryd.prog 77 #[.pointer (some ⟨g, 0, none⟩)] w (ClassRes g s deep w (Rx.pClass (bys s) i)) := by
  unfold Rx.pClass
  by_cases hb : (bys s)[i]? = some 94
  · rw [if_pos hb]
    have hl : i < s.size := by
      rcases Nat.lt_or_ge i s.size with h | h
      · exact h
      · rw [bys_ge s i h] at hb; cases hb
    exact class_any true g s i (i + 1) deep w hs (by omega) hp ⟨hb, rfl⟩ _ rfl
  · rw [if_neg hb]
    exact class_any false g s i i deep w hs hi hp ⟨hb, rfl⟩ _ rfl
end Go.Proofs.YtmlmnckhiianhaaDoor
