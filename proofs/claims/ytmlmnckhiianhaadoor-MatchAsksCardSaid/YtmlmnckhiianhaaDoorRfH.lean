/- The document's pattern reader: patterns of any depth; a whole text. -/
import Derived.Test.YtmlmnckhiianhaaDoorRfG
namespace Go.Proofs.YtmlmnckhiianhaaDoor
open Go.RowKit
set_option linter.unusedVariables false
set_option linter.unusedSimpArgs false

set_option maxRecDepth 100000 in
set_option maxHeartbeats 4000000 in
theorem pattern_deep (g : Nat) (s : ByteArray) (i : Nat) (w : World) (hs : s.size ≤ 64) (hi : i ≤ s.size) (hp : RS w g s i 8 0) :
    Calls Tryd.prog 32 #[.pointer (some ⟨g, 0, none⟩)] w (NRes g s 8 0 w (.error 9)) := by
  have hg := hp.lt
  have hpl0 := Lib.hid ((hp.alloc (.cells #[.string ⟨#[]⟩, .slice none 0 0, .slice none 0 0] 50)).alloc (.cells #[.string ⟨#[101, 105, 116, 104, 101, 114]⟩, .slice none 0 0, .slice none 0 0] 50))
  have hgB : ¬ w.heap.size = g := by omega
  have hgB2 : ¬ g = w.heap.size := by omega
  have hgn : ¬ g = w.heap.size + 1 := by omega
  have hgn2 : ¬ w.heap.size + 1 = g := by omega
  have q2 := hpl0.out.c2
  have qf2 := hpl0.out.f 2
  have hpl1 := Lib.hid ((((hp.set2 9).alloc (.cells #[.string ⟨#[]⟩, .slice none 0 0, .slice none 0 0] 50)).alloc (.cells #[.string ⟨#[101, 105, 116, 104, 101, 114]⟩, .slice none 0 0, .slice none 0 0] 50)))
  have q3 := hpl1.out.c2
  go_enter Tryd.func32, Tryd.ntmps32
  go_wp2_with (go_at_call 33; ((refine (wrong_calls g s i _ 9 _ (by exact hpl1.out)).mono ?_); rintro e w3 ⟨rfl, hp3, hc3, hz3⟩; have hB3 := NX.chg (M := (· = g)) (RW.start (w.setCell ⟨g, 2, none⟩ (.int .i64 9)) ⟨#[101, 105, 116, 104, 101, 114]⟩ w.heap.size (size_set _ _ _).symm _ rfl).box hc3 hgn2; have hR3 := NX.chg (M := (· = g)) (RW.start (w.setCell ⟨g, 2, none⟩ (.int .i64 9)) ⟨#[101, 105, 116, 104, 101, 114]⟩ w.heap.size (size_set _ _ _).symm _ rfl).rb hc3 hgB; have x0 := hB3.c0; have x1 := hB3.c1; have x2 := hB3.c2; have rr0 := hR3.c0; have rr1 := hR3.c1; have rr2 := hR3.c2; have rf0 := hR3.f 0; have rf1 := hR3.f 1; have rf2 := hR3.f 2))
  refine bodyPost_ret (v := .agg #[.string ⟨#[101, 105, 116, 104, 101, 114]⟩, .slice none 0 0, .slice none 0 0]) (by simp [results, Tryd.results32, go_sem, rr0, rr1, rr2, hgB, hgB2]) rfl ?_
  exact nres_err hg ((((Chg.refl (· = g) w).setCell (p := ⟨g, 2, none⟩) (.inl rfl) _).alloc _ |>.alloc _).trans hc3) (isSl _ _ _) (isSl _ _ _) (by decide) (a := i) hp3 (by omega)

theorem pattern_calls (g : Nat) (s : ByteArray) (hs : s.size ≤ 64) : ∀ n : Nat, n ≤ 8 → RecR g s (8 - n) n (Rx.pPat (bys s) n)
  | 0, _ => fun i w hi hp => pattern_deep g s i w hs hi hp
  | n + 1, hn => fun i w hi hp => by
    rw [patOf_eq]
    have ih := pattern_calls g s hs n (by omega)
    have e : (8 : Int) - (n + 1 : Nat) + 1 = 8 - n := by omega
    exact pattern_step g s i _ n _ w (by omega) (by omega) hs hi hp (by omega) (by rw [e]; exact ih) (Rx.pPat_good _ n)

/-- What the document's Parse has done. -/
def RParse (w : World) (r : Except Nat Rx) (e : Ending) (w' : World) : Prop :=
  Below w.heap.size w w' ∧ match r with
  | .error er => er ≠ 0 ∧ ∃ K A1 m1 c1 A2 m2 c2, e = .returned (.tuple #[.agg #[.string K, .slice A1 m1 c1, .slice A2 m2 c2], .int .i64 er])
  | .ok x => ∃ K A1 m1 c1 A2 m2 c2, e = .returned (.tuple #[.agg #[.string K, .slice A1 m1 c1, .slice A2 m2 c2], .int .i64 0]) ∧ NV w' (fun k => w.heap.size ≤ k) (K, .slice A1 m1 c1, .slice A2 m2 c2) x

set_option maxHeartbeats 4000000 in
theorem RParse_long (s : ByteArray) (w : World) (hs : 64 < s.size) :
    Calls Tryd.prog 21 #[.string s] w (RParse w (Rx.parse (bys s))) := by
  have hr : Rx.parse (bys s) = .error 9 := by unfold Rx.parse; rw [if_pos (by rw [bys_len]; exact hs)]
  rw [hr]
  have hs' : (64 : Int) < s.size := by omega
  clear hr
  go_enter Tryd.func21, Tryd.ntmps21
  go_wp2
  refine bodyPost_ret (v := .tuple #[.agg #[.string ⟨#[]⟩, .slice none 0 0, .slice none 0 0], .int .i64 9]) (by simp [results, Tryd.results21, go_sem]) rfl ⟨?_, by decide, _, _, _, _, _, _, _, rfl⟩
  exact (Below.refl _ _).alloc (Nat.le_refl _) _

set_option maxRecDepth 100000 in
set_option maxHeartbeats 4000000 in
theorem RParse_calls (s : ByteArray) (w : World) : Calls Tryd.prog 21 #[.string s] w (RParse w (Rx.parse (bys s))) := by
  by_cases hs : 64 < s.size
  · exact RParse_long s w hs
  · have hs64 : s.size ≤ 64 := by omega
    have hs' : decide ((64 : Int) < s.size) = false := decide_eq_false (by omega)
    rw [parse_pat (by rw [bys_len]; exact hs64)]
    have HP : RecR (w.heap.size + 1) s 0 8 (Rx.pPat (bys s) 8) := by simpa using pattern_calls (w.heap.size + 1) s hs64 8 (Nat.le_refl _)
    have hps : RS ((w.alloc (.cells #[.string ⟨#[]⟩, .slice none 0 0, .slice none 0 0] 50)).alloc (.cells #[.string s, .int .i64 0, .int .i64 0, .int .i64 0] 75)) (w.heap.size + 1) s ((0 : Nat) : Int) 0 0 := blk_new' _ _ _ (by simp)
    have HPP := Lib.hid HP
    clear HP
    have hgl : w.heap.size + 1 ≠ w.heap.size := by omega
    cases hf : Rx.pPat (bys s) 8 0 with
    | error er =>
      have HFF := Lib.hid hf
      clear hf hs
      go_enter Tryd.func21, Tryd.ntmps21
      go_wp2_with (go_at_call 32; refine (HPP.out 0 _ (by omega) hps).mono ?_; rintro e w2 hr2; rw [HFF.out] at hr2; obtain ⟨hc2, ⟨K2, h2, k2, rfl, ⟨hA, hN, hC, rfl⟩, ⟨qA, qN, qC, rfl⟩⟩, hne, a2, d2, hp2, ha2⟩ := hr2; have hpD := hp2.alloc (.cells #[.string K2, .slice hA hN hC, .slice qA qN qC] 50); have a1 := hpD.c1; have a3 := hpD.c3; have hz : ((er : Int) == 0) = false := eqb_no hne; have hz9 := hc2.size; have hq2 := (NX.chg (M := (· = w.heap.size + 1)) (w := ((w.alloc (.cells #[.string ⟨#[]⟩, .slice none 0 0, .slice none 0 0] 50)).alloc (.cells #[.string s, .int .i64 0, .int .i64 0, .int .i64 0] 75))) (b := w.heap.size) (K := ⟨#[]⟩) (h := .slice none 0 0) (k := .slice none 0 0) (blk_alloc (blk_new w _) _) hc2 (by simp)).alloc (.cells #[.string K2, .slice hA hN hC, .slice qA qN qC] 50); have rr0 := hq2.c0; have rr1 := hq2.c1; have rr2 := hq2.c2; have rf0 := hq2.f 0; have rf1 := hq2.f 1; have rf2 := hq2.f 2)
      simp at hz9
      have hw2 : w2.heap.size ≠ w.heap.size := by omega
      go_region
      all_goals
        go_wp2
        refine bodyPost_ret (v := .tuple #[.agg #[.string K2, .slice hA hN hC, .slice qA qN qC], .int .i64 er]) (by simp [results, Tryd.results21, go_sem, rr0, rr1, rr2]) rfl ?_
        refine ⟨?_, hne, _, _, _, _, _, _, _, rfl⟩
        have hcE : Chg (fun k => w.heap.size ≤ k) w w2 := (((Chg.refl (fun k => w.heap.size ≤ k) w).alloc _).alloc _).trans (hc2.mono (fun k _ h => by omega))
        exact Chg.below (M := fun k => w.heap.size ≤ k) (by first | exact (((((hcE.alloc _).drew).setCell (p := ⟨w.heap.size, 0, none⟩) (.inl (Nat.le_refl _)) _).setCell (p := ⟨w.heap.size, 1, none⟩) (.inl (Nat.le_refl _)) _).setCell (p := ⟨w.heap.size, 2, none⟩) (.inl (Nat.le_refl _)) _) | exact ((((hcE.alloc _).setCell (p := ⟨w.heap.size, 0, none⟩) (.inl (Nat.le_refl _)) _).setCell (p := ⟨w.heap.size, 1, none⟩) (.inl (Nat.le_refl _)) _).setCell (p := ⟨w.heap.size, 2, none⟩) (.inl (Nat.le_refl _)) _).drew) (fun k hk h => by omega)
    | ok xj =>
      obtain ⟨x, j⟩ := xj
      have HFF := Lib.hid hf
      clear hf hs
      by_cases hj : j < s.size
      · have hj' : j < (bys s).length := by rw [bys_len]; exact hj
        simp only [if_pos hj']
        have hjI : decide ((j : Int) < s.size) = true := decide_eq_true (by omega)
        have hjI2 : decide (j < s.size) = true := decide_eq_true (by omega)
        clear hj'
        go_enter Tryd.func21, Tryd.ntmps21
        go_wp2_with (first | (go_at_call 32; refine (HPP.out 0 _ (by omega) hps).mono ?_; rintro e w2 hr2; rw [HFF.out] at hr2; obtain ⟨hc2, K2, h2, k2, rfl, hv2, hp2, hj2⟩ := hr2; obtain ⟨hA, hN, hC, rfl⟩ := hv2.one.2.1; obtain ⟨qA, qN, qC, rfl⟩ := hv2.one.2.2; have HV2 := Lib.hid hv2; clear hv2; have hpD := hp2.alloc (.cells #[.string K2, .slice hA hN hC, .slice qA qN qC] 50); have a1 := hpD.c1; have a3 := hpD.c3; have hz9 := hc2.size; have hq2 := (NX.chg (M := (· = w.heap.size + 1)) (w := ((w.alloc (.cells #[.string ⟨#[]⟩, .slice none 0 0, .slice none 0 0] 50)).alloc (.cells #[.string s, .int .i64 0, .int .i64 0, .int .i64 0] 75))) (b := w.heap.size) (K := ⟨#[]⟩) (h := .slice none 0 0) (k := .slice none 0 0) (blk_alloc (blk_new w _) _) hc2 (by simp)).alloc (.cells #[.string K2, .slice hA hN hC, .slice qA qN qC] 50)) | (go_at_call 33; ((refine (wrong_calls (w.heap.size + 1) s j _ 27 _ (by exact hpD)).mono ?_); rintro e w3 ⟨rfl, hp3, hc3, hz3⟩; have a4 := hp3.c3; have hq3 := hq2.chg hc3 (by simp); have hB3 := NX.chg (M := (· = w.heap.size + 1)) (w := w2.alloc (.cells #[.string K2, .slice hA hN hC, .slice qA qN qC] 50)) (b := w2.heap.size) (blk_new w2 _) hc3 (by simp at hz9; omega); have x0 := hB3.c0; have x1 := hB3.c1; have x2 := hB3.c2; have rr0 := hq3.c0; have rr1 := hq3.c1; have rr2 := hq3.c2; have rf0 := hq3.f 0; have rf1 := hq3.f 1; have rf2 := hq3.f 2)))
        simp at hz9
        have hw2 : w2.heap.size ≠ w.heap.size := by omega
        go_region
        all_goals
          go_wp2
          refine bodyPost_ret (v := .tuple #[.agg #[.string K2, .slice hA hN hC, .slice qA qN qC], .int .i64 27]) (by simp [results, Tryd.results21, go_sem, rr0, rr1, rr2]) rfl ?_
          refine ⟨?_, by decide, _, _, _, _, _, _, _, rfl⟩
          have hcE : Chg (fun k => w.heap.size ≤ k) w w2 := (((Chg.refl (fun k => w.heap.size ≤ k) w).alloc _).alloc _).trans (hc2.mono (fun k _ h => by omega))
          have hcF := (hcE.alloc (.cells #[.string K2, .slice hA hN hC, .slice qA qN qC] 50)).trans (hc3.mono (M' := fun k => w.heap.size ≤ k) (fun k _ h => by omega))
          exact Chg.below (M := fun k => w.heap.size ≤ k) (by first | exact ((((hcF.drew).setCell (p := ⟨w.heap.size, 0, none⟩) (.inl (Nat.le_refl _)) _).setCell (p := ⟨w.heap.size, 1, none⟩) (.inl (Nat.le_refl _)) _).setCell (p := ⟨w.heap.size, 2, none⟩) (.inl (Nat.le_refl _)) _) | exact ((((hcF).setCell (p := ⟨w.heap.size, 0, none⟩) (.inl (Nat.le_refl _)) _).setCell (p := ⟨w.heap.size, 1, none⟩) (.inl (Nat.le_refl _)) _).setCell (p := ⟨w.heap.size, 2, none⟩) (.inl (Nat.le_refl _)) _).drew) (fun k hk h => by omega)
      · have hj' : ¬ j < (bys s).length := by rw [bys_len]; exact hj
        simp only [if_neg hj']
        have hjI : decide (j < s.size) = false := decide_eq_false hj
        clear hj'
        go_enter Tryd.func21, Tryd.ntmps21
        go_wp2_with (go_at_call 32; refine (HPP.out 0 _ (by omega) hps).mono ?_; rintro e w2 hr2; rw [HFF.out] at hr2; obtain ⟨hc2, K2, h2, k2, rfl, hv2, hp2, hj2⟩ := hr2; obtain ⟨hA, hN, hC, rfl⟩ := hv2.one.2.1; obtain ⟨qA, qN, qC, rfl⟩ := hv2.one.2.2; have HV2 := Lib.hid hv2; clear hv2; have hpD := hp2.alloc (.cells #[.string K2, .slice hA hN hC, .slice qA qN qC] 50); have a1 := hpD.c1; have a3 := hpD.c3; have hz9 := hc2.size; have hq2 := (NX.chg (M := (· = w.heap.size + 1)) (w := ((w.alloc (.cells #[.string ⟨#[]⟩, .slice none 0 0, .slice none 0 0] 50)).alloc (.cells #[.string s, .int .i64 0, .int .i64 0, .int .i64 0] 75))) (b := w.heap.size) (K := ⟨#[]⟩) (h := .slice none 0 0) (k := .slice none 0 0) (blk_alloc (blk_new w _) _) hc2 (by simp)).alloc (.cells #[.string K2, .slice hA hN hC, .slice qA qN qC] 50); have rr0 := hq2.c0; have rr1 := hq2.c1; have rr2 := hq2.c2; have rf0 := hq2.f 0; have rf1 := hq2.f 1; have rf2 := hq2.f 2)
        simp at hz9
        have hw2 : w2.heap.size ≠ w.heap.size := by omega
        go_region
        all_goals
          go_wp2
          refine bodyPost_ret (v := .tuple #[.agg #[.string K2, .slice hA hN hC, .slice qA qN qC], .int .i64 0]) (by simp [results, Tryd.results21, go_sem, rr0, rr1, rr2]) rfl ?_
          refine ⟨?_, _, _, _, _, _, _, _, rfl, ?_⟩
          · have hcE : Chg (fun k => w.heap.size ≤ k) w w2 := (((Chg.refl (fun k => w.heap.size ≤ k) w).alloc _).alloc _).trans (hc2.mono (fun k _ h => by omega))
            exact Chg.below (M := fun k => w.heap.size ≤ k) (by first | exact (((((hcE.alloc _).drew).setCell (p := ⟨w.heap.size, 0, none⟩) (.inl (Nat.le_refl _)) _).setCell (p := ⟨w.heap.size, 1, none⟩) (.inl (Nat.le_refl _)) _).setCell (p := ⟨w.heap.size, 2, none⟩) (.inl (Nat.le_refl _)) _) | exact ((((hcE.alloc _).setCell (p := ⟨w.heap.size, 0, none⟩) (.inl (Nat.le_refl _)) _).setCell (p := ⟨w.heap.size, 1, none⟩) (.inl (Nat.le_refl _)) _).setCell (p := ⟨w.heap.size, 2, none⟩) (.inl (Nat.le_refl _)) _).drew) (fun k hk h => by omega)
          · refine HV2.out.chg (M := (· = w.heap.size)) ((by first | exact (((((((Chg.refl (· = w.heap.size) w2).alloc _).drew)).setCell (p := ⟨w.heap.size, 0, none⟩) (.inl rfl) _).setCell (p := ⟨w.heap.size, 1, none⟩) (.inl rfl) _).setCell (p := ⟨w.heap.size, 2, none⟩) (.inl rfl) _) | exact ((((((Chg.refl (· = w.heap.size) w2).alloc _)).setCell (p := ⟨w.heap.size, 0, none⟩) (.inl rfl) _).setCell (p := ⟨w.heap.size, 1, none⟩) (.inl rfl) _).setCell (p := ⟨w.heap.size, 2, none⟩) (.inl rfl) _).drew)) (fun k hk hS => by simp at hS; omega) (fun k hk hS => by simp at hS; omega)
end Go.Proofs.YtmlmnckhiianhaaDoor
