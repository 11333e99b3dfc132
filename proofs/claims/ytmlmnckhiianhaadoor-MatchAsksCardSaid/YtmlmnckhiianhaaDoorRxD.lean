/- Parts, how often they come, rows of them, and rows with bars between, walked. -/
import Derived.Test.YtmlmnckhiianhaaDoorRxC
import Derived.Deep.RegionHeld3
import Derived.Deep.DeepCutAuto
namespace Go.Proofs.YtmlmnckhiianhaaDoor
open Go.RowKit
set_option linter.unusedVariables false
set_option linter.unusedSimpArgs false

/-- The numbers of the kinds of parts. -/
def kindOf : Rx → Int
  | .byte _ => 0
  | .row _ => 1
  | .either _ => 2
  | .star _ => 3
  | .plus _ => 4
  | .maybe _ => 5
def kidsOf : Rx → List Rx
  | .byte _ => []
  | .row l => l
  | .either l => l
  | .star r => [r]
  | .plus r => [r]
  | .maybe r => [r]
/-- At block b of w lies a part, all of it in blocks of S. -/
inductive At (w : World) (S : Nat → Prop) : Nat → Rx → Prop
  | mk (b : Nat) (x : Rx) (q : Nat → Int) (v : Value) (bs : List Nat) (hS : S b) (hb : NB w b (kindOf x) q v) (hq : ∀ P, x = .byte P → SetV q P)
      (hl : bs.length = (kidsOf x).length) (hv : (v = .slice none 0 0 ∧ bs = []) ∨ ∃ g c, v = .slice (some ⟨g, 0, none⟩) bs.length c ∧ S g ∧ bs.length ≤ c ∧ ∃ cs : Array Value, w.heap[g]? = some (.cells cs 81 (0, 0)) ∧ ∀ (i b' : Nat), bs[i]? = some b' → cs[i]? = some (Value.pointer (some ⟨b', 0, none⟩)))
      (hk : ∀ (i b' : Nat) (y : Rx), bs[i]? = some b' → (kidsOf x)[i]? = some y → At w S b' y) : At w S b x

theorem At.lt {w : World} {S : Nat → Prop} {b : Nat} {x : Rx} (h : At w S b x) : b < w.heap.size := by
  cases h with
  | mk _ _ q v bs hS hb => exact hb.lt
theorem At.frame {w w' : World} {S S' : Nat → Prop} {b : Nat} {x : Rx} (h : At w S b x) (hh : ∀ k, k < w.heap.size → S k → w'.heap[k]? = w.heap[k]? ∧ S' k) : At w' S' b x := by
  induction h with
  | mk b x q v bs hS hb hq hl hv hk ih =>
    refine .mk b x q v bs (hh b hb.lt hS).2 ((hh b hb.lt hS).1.trans hb) hq hl ?_ ih
    rcases hv with hv | ⟨g, c, hv, hg, hc, cs, hcs, hi⟩
    · exact .inl hv
    · exact .inr ⟨g, c, hv, (hh g (blk_lt hcs) hg).2, hc, cs, (hh g (blk_lt hcs) hg).1.trans hcs, hi⟩
theorem At.chg {w w' : World} {S S' M : Nat → Prop} {b : Nat} {x : Rx} (h : At w S b x) (hc : Chg M w w') (hm : ∀ k, k < w.heap.size → S k → ¬ M k) (hs : ∀ k, k < w.heap.size → S k → S' k) : At w' S' b x :=
  h.frame fun k hk hS => ⟨hc.block k hk (hm k hk hS), hs k hk hS⟩

/-- What one of the reader's functions has done. -/
def PRes (g : Nat) (s : ByteArray) (deep : Int) (w : World) (r : Except Nat (Rx × Nat)) (e : Ending) (w' : World) : Prop :=
  Chg (· = g) w w' ∧ match r with
  | .ok (x, j) => ∃ b, e = .returned (.pointer (some ⟨b, 0, none⟩)) ∧ At w' (fun k => w.heap.size ≤ k) b x ∧ PS w' g s (j : Nat) deep 0 ∧ j ≤ s.size
  | .error er => (∃ q, e = .returned (.pointer q)) ∧ (∃ d, PS w' g s s.size d er) ∧ er ≠ 0
/-- What a pattern, one level deeper, does. -/
def Rec (g : Nat) (s : ByteArray) (deep : Int) (f : Nat → Except Nat (Rx × Nat)) : Prop :=
  ∀ (i : Nat) (w : World), i ≤ s.size → PS w g s i deep 0 → Calls Tryd.prog 36 #[.pointer (some ⟨g, 0, none⟩)] w (PRes g s deep w (f i))

theorem Rec.calls {g : Nat} {s : ByteArray} {deep : Int} {f : Nat → Except Nat (Rx × Nat)} (h : Rec g s deep f) (i : Nat) (w : World) (hi : i ≤ s.size) (hp : PS w g s i deep 0) :
    Calls Tryd.prog 36 #[.pointer (some ⟨g, 0, none⟩)] w (PRes g s deep w (f i)) := h i w hi hp
theorem At.byte {w : World} {S : Nat → Prop} {b : Nat} {q : Nat → Int} {P : Nat → Bool} (h : NB w b 0 q (.slice none 0 0)) (hq : SetV q P) (hS : S b) : At w S b (.byte P) :=
  .mk b _ q _ [] hS h (fun Q e => by injection e with e; rw [← e]; exact hq) rfl (.inl ⟨rfl, rfl⟩) (fun i b' y h => by simp at h)
theorem eqb_no {n k : Nat} (h : n ≠ k) : ((n : Int) == (k : Int)) = false := by simp; omega

set_option maxHeartbeats 4000000 in
theorem part_calls (g : Nat) (s : ByteArray) (i : Nat) (deep : Int) (f : Nat → Except Nat (Rx × Nat)) (w : World) (hs : s.size ≤ 64) (hi : i < s.size) (hp : PS w g s i deep 0) (HF : Rec g s deep f) :
    Calls Tryd.prog 74 #[.pointer (some ⟨g, 0, none⟩)] w (PRes g s deep w (Rx.pPart f (bys s) i)) := by
  have hb := bys_get s i hi
  have h0 := hp.c0
  have h1 := hp.c1
  have f1 := hp.f 1
  have hg := hp.lt
  have hi' : (i : Int) < s.size := by omega
  have hcb : s[i].toNat < 256 := UInt8.toNat_lt _
  by_cases h40 : s[i].toNat = 40
  · cases hf : f (i + 1) with
    | error er =>
      have hR : Rx.pPart f (bys s) i = .error er := by simp only [Rx.pPart, hb, h40, if_true, hf]
      rw [hR]
      have HFF := Lib.hid hf
      clear hR hb hf
      go_enter Tryd.func74, Tryd.ntmps74
      go_wp2
      go_quiet (fail)
      go_wp2_with (first | (go_at_call 36; ((with_reducible refine (HF.calls (i + 1) _ (by omega) ((((hp.alloc _).drewN _).set1 _).cast (by omega))).mono ?_); rintro e w2 hr2; rw [HFF.out] at hr2; obtain ⟨hc_w2, ⟨q2, rfl⟩, ⟨d2, hp_w2⟩, hne⟩ := hr2; have pe := pk_end s 41)) | (go_at_call 53; ((with_reducible refine (peek41 g s s.size d2 er _ hs hp_w2).mono ?_); rintro e w1 ⟨rfl, n2, rfl⟩)) | (go_at_call 37; ((with_reducible refine (fail_calls g s _ d2 er 27 _ hs (hp_w2.drewN _)).mono ?_); rintro e w6 ⟨⟨q6, rfl⟩, hp_w6, hc_w6⟩)))
      go_ret
      refine ⟨((((((Chg.refl (· = g) w).alloc _).drewN _).setCell (p := ⟨g, 1, none⟩) (.inl rfl) _).trans hc_w2).drewN _).trans hc_w6, ⟨_, rfl⟩, ⟨d2, ?_⟩, hne⟩
      simpa [hne] using hp_w6
    | ok xj =>
      obtain ⟨x, j⟩ := xj
      by_cases hj : (bys s)[j]? = some 41
      · have hk : pk s j 41 = true := by simp [pk, hj]
        have hjl := pk_lt hk
        have hR : Rx.pPart f (bys s) i = .ok (x, j + 1) := by simp only [Rx.pPart, hb, h40, if_true, hf, if_pos hj]
        rw [hR]
        have HFF := Lib.hid hf
        clear hR hb hf hj
        go_enter Tryd.func74, Tryd.ntmps74
        go_wp2
        go_quiet (fail)
        go_wp2_with (first | (go_at_call 36; ((with_reducible refine (HF.calls (i + 1) _ (by omega) ((((hp.alloc _).drewN _).set1 _).cast (by omega))).mono ?_); rintro e w2 hr2; rw [HFF.out] at hr2; obtain ⟨hc_w2, b2, rfl, hat, hp_w2, hjs⟩ := hr2; have a1 := hp_w2.c1; have a2 := hp_w2.f 1)) | (go_at_call 53; ((with_reducible refine (peek41 g s j deep 0 _ hs hp_w2).mono ?_); rintro e w1 ⟨rfl, n2, rfl⟩)))
        go_ret
        have hlt2 := hc_w2.size
        simp [size_set] at hlt2
        refine ⟨(((((((Chg.refl (· = g) w).alloc _).drewN _).setCell (p := ⟨g, 1, none⟩) (.inl rfl) _).trans hc_w2).drewN _).setCell (p := ⟨g, 1, none⟩) (.inl rfl) _), b2, rfl, ?_, ((hp_w2.drewN _).set1 _).cast (by omega), by omega⟩
        exact hat.chg (((Chg.refl (· = g) w2).drewN _).setCell (p := ⟨g, 1, none⟩) (.inl rfl) _) (fun k hk hS => by simp [size_set] at hS ⊢; omega) (fun k hk hS => by simp [size_set] at hS ⊢; omega)
      · have hk : pk s j 41 = false := by simp [pk, hj]
        have hR : Rx.pPart f (bys s) i = .error 27 := by simp only [Rx.pPart, hb, h40, if_true, hf, if_neg hj]
        rw [hR]
        have HFF := Lib.hid hf
        clear hR hb hf hj
        go_enter Tryd.func74, Tryd.ntmps74
        go_wp2
        go_quiet (fail)
        go_wp2_with (first | (go_at_call 36; ((with_reducible refine (HF.calls (i + 1) _ (by omega) ((((hp.alloc _).drewN _).set1 _).cast (by omega))).mono ?_); rintro e w2 hr2; rw [HFF.out] at hr2; obtain ⟨hc_w2, b2, rfl, hat, hp_w2, hjs⟩ := hr2; have a1 := hp_w2.c1; have a2 := hp_w2.f 1)) | (go_at_call 53; ((with_reducible refine (peek41 g s j deep 0 _ hs hp_w2).mono ?_); rintro e w1 ⟨rfl, n2, rfl⟩)) | (go_at_call 37; ((with_reducible refine (fail_calls g s _ deep 0 27 _ hs (hp_w2.drewN _)).mono ?_); rintro e w6 ⟨⟨q6, rfl⟩, hp_w6, hc_w6⟩)))
        go_ret
        exact ⟨((((((Chg.refl (· = g) w).alloc _).drewN _).setCell (p := ⟨g, 1, none⟩) (.inl rfl) _).trans hc_w2).drewN _).trans hc_w6, ⟨_, rfl⟩, ⟨deep, by simpa using hp_w6⟩, by decide⟩
  by_cases h91 : s[i].toNat = 91
  · have hR : Rx.pPart f (bys s) i = Rx.pClass (bys s) (i + 1) := by simp [Rx.pPart, hb, h91]
    rw [hR]
    clear hR hb h40
    cases hf : Rx.pClass (bys s) (i + 1) with
    | error er =>
      have HFF := Lib.hid hf
      clear hf
      go_enter Tryd.func74, Tryd.ntmps74
      go_wp2
      go_quiet (fail)
      go_wp2_with (first | (go_at_call 77; ((with_reducible refine (class_calls g s (i + 1) deep _ hs (by omega) ((((hp.alloc _).drewN _).set1 _).cast (by omega))).mono ?_); rintro e w2 hr2; rw [HFF.out] at hr2; obtain ⟨hc_w2, ⟨q2, rfl⟩, hp_w2, hne⟩ := hr2)))
      go_ret
      exact ⟨((((Chg.refl (· = g) w).alloc _).drewN _).setCell (p := ⟨g, 1, none⟩) (.inl rfl) _).trans hc_w2, ⟨_, rfl⟩, ⟨deep, hp_w2⟩, by omega⟩
    | ok xj =>
      obtain ⟨x, j⟩ := xj
      have HFF := Lib.hid hf
      clear hf
      go_enter Tryd.func74, Tryd.ntmps74
      go_wp2
      go_quiet (fail)
      go_wp2_with (first | (go_at_call 77; ((with_reducible refine (class_calls g s (i + 1) deep _ hs (by omega) ((((hp.alloc _).drewN _).set1 _).cast (by omega))).mono ?_); rintro e w2 hr2; rw [HFF.out] at hr2; obtain ⟨hc_w2, b2, q2, P2, rfl, hb2, hn2, hq2, hx2, hp_w2, hj2⟩ := hr2)))
      go_ret
      subst hx2
      exact ⟨((((Chg.refl (· = g) w).alloc _).drewN _).setCell (p := ⟨g, 1, none⟩) (.inl rfl) _).trans hc_w2, b2, rfl, At.byte hn2 hq2 (by simp [size_set] at hb2 ⊢; omega), hp_w2, hj2⟩
  by_cases hbad : s[i].toNat = 42 ∨ s[i].toNat = 43 ∨ s[i].toNat = 63 ∨ s[i].toNat = 93 ∨ s[i].toNat = 123 ∨ s[i].toNat = 125 ∨ s[i].toNat = 94 ∨ s[i].toNat = 36
  · have hR : Rx.pPart f (bys s) i = .error 27 := by simp only [Rx.pPart, hb, if_neg h40, if_neg h91, if_pos hbad]
    rw [hR]
    clear hR hb h40 h91
    rcases hbad with hv | hv | hv | hv | hv | hv | hv | hv
    all_goals
      go_enter Tryd.func74, Tryd.ntmps74
      go_wp2
      go_quiet (fail)
      go_wp2_with (go_at_call 37; ((with_reducible refine (fail_calls g s _ deep 0 27 _ hs (((hp.alloc _).drewN _).set1 _)).mono ?_); rintro e w6 ⟨⟨q6, rfl⟩, hp_w6, hc_w6⟩))
      go_ret
      exact ⟨((((Chg.refl (· = g) w).alloc _).drewN _).setCell (p := ⟨g, 1, none⟩) (.inl rfl) _).trans hc_w6, ⟨_, rfl⟩, ⟨deep, by simpa using hp_w6⟩, by decide⟩
  by_cases h46 : s[i].toNat = 46
  · have hR : Rx.pPart f (bys s) i = .ok (.byte (fun _ => true), i + 1) := by simp [Rx.pPart, hb, h46]
    rw [hR]
    clear hR hb h40 h91 hbad
    have hng : w.heap.size ≠ g := by omega
    go_enter Tryd.func74, Tryd.ntmps74
    go_wp2
    go_quiet (fail)

    go_wp2_with (go_at_call 78; ((with_reducible refine (turn_calls (fun _ => 0) (fun _ => false) _ SetV.zero).mono ?_); rintro e w5 ⟨q5, rfl, hq5, hb5⟩); have hN := (NB.far ((NB.new0 w 0).drewN _) (p := ⟨g, 1, none⟩) (by first | omega | (simp; omega)) _).chg (Chg.of_below (M := fun _ => False) hb5) id; have v1 := hN.w1; have v2 := hN.w2; have v3 := hN.w3; have v4 := hN.w4; have u1 := hN.f 1; have u2 := hN.f 2; have u3 := hN.f 3; have u4 := hN.f 4)
    go_ret
    exact ⟨(((((((((Chg.refl (· = g) w).alloc _).drewN _).setCell (p := ⟨g, 1, none⟩) (.inl rfl) _).trans (Chg.of_below hb5)).setCell (p := ⟨w.heap.size, 1, none⟩) (.inr (Nat.le_refl _)) _).setCell (p := ⟨w.heap.size, 2, none⟩) (.inr (Nat.le_refl _)) _).setCell (p := ⟨w.heap.size, 3, none⟩) (.inr (Nat.le_refl _)) _).setCell (p := ⟨w.heap.size, 4, none⟩) (.inr (Nat.le_refl _)) _), _, rfl, At.byte (hN.setAll q5) (hq5.congr fun x _ => by simp) (Nat.le_refl _),
      PS.cast (PS.far (PS.far (PS.far (PS.far ((((hp.alloc _).drewN _).set1 _).chg (Chg.of_below (M := fun _ => False) hb5) id) (by first | omega | (simp; omega)) _) (by first | omega | (simp; omega)) _) (by first | omega | (simp; omega)) _) (by first | omega | (simp; omega)) _) (by omega), by omega⟩
  by_cases h92 : s[i].toNat = 92
  · by_cases hj : i + 1 < s.size
    · have hb2 := bys_get s (i + 1) hj
      have hR : Rx.pPart f (bys s) i = .ok (.byte (fun x => x == s[i + 1].toNat), i + 2) := by simp [Rx.pPart, hb, h92, hb2]
      rw [hR]
      have hcb2 : s[i + 1].toNat < 256 := UInt8.toNat_lt _
      have hji : (i : Int) + 1 < s.size := by omega
      have hjn : ((i : Int) + 1 == s.size) = false := by simp; omega
      clear hR hb h40 h91 hbad h46 hb2
      have w3 : (0 : Int) ≤ (i : Int) + 1 := by omega
      have w4 : ((i : Int) + 1).toNat = i + 1 := by omega
      go_enter Tryd.func74, Tryd.ntmps74
      go_wp2
      go_quiet (fail)
      go_wp2
      go_quiet (fail)
      go_wp2
      go_quiet (fail)
      go_wp2_with (go_at_call 79; ((with_reducible refine (put_calls w.heap.size 0 (fun _ => 0) (.slice none 0 0) (fun _ => false) _ _ (by omega) (by omega) (NB.far (NB.drewN (NB.far ((NB.new0 w 0).drewN _) (p := ⟨g, 1, none⟩) (by first | omega | (simp; omega)) _) _) (p := ⟨g, 1, none⟩) (by first | omega | (simp; omega)) _) SetV.zero).mono ?_); rintro e w3 ⟨rfl, q3, hn3, hq3, hc3, hz3⟩))
      go_ret
      exact ⟨(((((((Chg.refl (· = g) w).alloc _).drewN _).setCell (p := ⟨g, 1, none⟩) (.inl rfl) _).drewN _).setCell (p := ⟨g, 1, none⟩) (.inl rfl) _).trans' hc3 (fun k hk h => by first | omega | (simp at h; omega))), _, rfl, At.byte hn3 (hq3.congr fun x _ => by simp) (Nat.le_refl _), PS.chg (((((((hp.alloc _).drewN _).set1 _).drewN _).set1 _)).cast (by omega)) hc3 (by first | omega | (simp; omega)), by omega⟩
    · have hR : Rx.pPart f (bys s) i = .error 27 := by simp [Rx.pPart, hb, h92, bys_ge s (i + 1) (by omega)]
      rw [hR]
      have hjn : ((i : Int) + 1 == s.size) = true := by simp; omega
      clear hR hb h40 h91 hbad h46
      go_enter Tryd.func74, Tryd.ntmps74
      go_wp2
      go_quiet (fail)
      go_wp2
      go_quiet (fail)
      go_wp2_with (go_at_call 37; ((with_reducible refine (fail_calls g s _ deep 0 27 _ hs ((((hp.alloc _).drewN _).set1 _).drewN _)).mono ?_); rintro e w6 ⟨⟨q6, rfl⟩, hp_w6, hc_w6⟩))
      go_ret
      exact ⟨(((((Chg.refl (· = g) w).alloc _).drewN _).setCell (p := ⟨g, 1, none⟩) (.inl rfl) _).drewN _).trans hc_w6, ⟨_, rfl⟩, ⟨deep, by simpa using hp_w6⟩, by decide⟩
  · have hR : Rx.pPart f (bys s) i = .ok (.byte (fun x => x == s[i].toNat), i + 1) := by simp only [Rx.pPart, hb, if_neg h40, if_neg h91, if_neg hbad, if_neg h46, if_neg h92]
    rw [hR]
    obtain ⟨n1, n2, n3, n4, n5, n6, n7, n8⟩ : s[i].toNat ≠ 42 ∧ s[i].toNat ≠ 43 ∧ s[i].toNat ≠ 63 ∧ s[i].toNat ≠ 93 ∧ s[i].toNat ≠ 123 ∧ s[i].toNat ≠ 125 ∧ s[i].toNat ≠ 94 ∧ s[i].toNat ≠ 36 := by simpa only [not_or] using hbad
    have e1 : ((s[i].toNat : Int) == 40) = false := eqb_no h40
    have e2 : ((s[i].toNat : Int) == 91) = false := eqb_no h91
    have e3 : ((s[i].toNat : Int) == 42) = false := eqb_no n1
    have e4 : ((s[i].toNat : Int) == 43) = false := eqb_no n2
    have e5 : ((s[i].toNat : Int) == 63) = false := eqb_no n3
    have e6 : ((s[i].toNat : Int) == 93) = false := eqb_no n4
    have e7 : ((s[i].toNat : Int) == 123) = false := eqb_no n5
    have e8 : ((s[i].toNat : Int) == 125) = false := eqb_no n6
    have e9 : ((s[i].toNat : Int) == 94) = false := eqb_no n7
    have e10 : ((s[i].toNat : Int) == 36) = false := eqb_no n8
    have e11 : ((s[i].toNat : Int) == 46) = false := eqb_no h46
    have e12 : ((s[i].toNat : Int) == 92) = false := eqb_no h92
    clear hR hb h40 h91 hbad h46 h92 n1 n2 n3 n4 n5 n6 n7 n8
    go_enter Tryd.func74, Tryd.ntmps74
    go_wp2
    go_quiet (fail)

    go_wp2_with (go_at_call 79; ((with_reducible refine (put_calls w.heap.size 0 (fun _ => 0) (.slice none 0 0) (fun _ => false) _ _ (by omega) (by omega) (NB.far ((NB.new0 w 0).drewN _) (p := ⟨g, 1, none⟩) (by first | omega | (simp; omega)) _) SetV.zero).mono ?_); rintro e w3 ⟨rfl, q3, hn3, hq3, hc3, hz3⟩))
    go_ret
    exact ⟨((((Chg.refl (· = g) w).alloc _).drewN _).setCell (p := ⟨g, 1, none⟩) (.inl rfl) _).trans' hc3 (fun k hk h => by first | omega | (simp at h; omega)), _, rfl, At.byte hn3 (hq3.congr fun x _ => by simp) (by simp), PS.chg ((((hp.alloc _).drewN _).set1 _).cast (by omega)) hc3 (by first | omega | (simp; omega)), by omega⟩
end Go.Proofs.YtmlmnckhiianhaaDoor
