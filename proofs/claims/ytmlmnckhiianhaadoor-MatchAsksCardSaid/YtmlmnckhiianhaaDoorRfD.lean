/- The document's pattern reader: how parts lie in memory; a part, walked. -/
import Derived.Test.YtmlmnckhiianhaaDoorRfC
namespace Go.Proofs.YtmlmnckhiianhaaDoor
open Go.RowKit
set_option linter.unusedVariables false
set_option linter.unusedSimpArgs false

/-- The names of the kinds of parts. -/
def kname : Rx → ByteArray
  | .byte _ => ⟨#[98, 121, 116, 101]⟩
  | .row _ => ⟨#[114, 111, 119]⟩
  | .either _ => ⟨#[101, 105, 116, 104, 101, 114]⟩
  | .star _ => ⟨#[42]⟩
  | .plus _ => ⟨#[43]⟩
  | .maybe _ => ⟨#[63]⟩
/-- A slice. -/
def IsSl (v : Value) : Prop := ∃ (A : Option Addr) (n c : Nat), v = .slice A n c
theorem IsSl.one {v : Value} (h : IsSl v) : v.oneCell' = true := by obtain ⟨A, n, c, rfl⟩ := h; rfl
/-- A value is a part, all of its memory in blocks of S. -/
inductive NV (w : World) (S : Nat → Prop) : ByteArray × Value × Value → Rx → Prop
  | mk (x : Rx) (h k : Value) (us : List (ByteArray × Value × Value)) (h1 : IsSl h) (k1 : IsSl k)
      (hb : ∀ P, x = .byte P → ∃ (gh : Nat) (bs : List Bool), h = .slice (some ⟨gh, 0, none⟩) 256 256 ∧ S gh ∧ Bools w gh bs ∧ Sees P bs)
      (hl : us.length = (kidsOf x).length)
      (hv : (k = .slice none 0 0 ∧ us = []) ∨ ∃ (g c : Nat) (cs : Array Value), k = .slice (some ⟨g, 0, none⟩) us.length c ∧ S g ∧ us.length ≤ c ∧ w.heap[g]? = some (.cells cs 50 (0, 0)) ∧ ∀ (i : Nat) (u : ByteArray × Value × Value), us[i]? = some u → cs[3 * i]? = some (.string u.1) ∧ cs[3 * i + 1]? = some u.2.1 ∧ cs[3 * i + 2]? = some u.2.2)
      (hk : ∀ (i : Nat) (u : ByteArray × Value × Value) (y : Rx), us[i]? = some u → (kidsOf x)[i]? = some y → NV w S u y) : NV w S (kname x, h, k) x
theorem NV.frame {w w' : World} {S S' : Nat → Prop} {v : ByteArray × Value × Value} {x : Rx} (h : NV w S v x) (hh : ∀ k, k < w.heap.size → S k → w'.heap[k]? = w.heap[k]? ∧ S' k) : NV w' S' v x := by
  induction h with
  | mk x h k us h1 k1 hb hl hv hk ih =>
    refine .mk x h k us h1 k1 (fun P e => ?_) hl ?_ ih
    · obtain ⟨gh, bs, e1, e2, e3, e4⟩ := hb P e
      exact ⟨gh, bs, e1, (hh gh (blk_lt e3) e2).2, (hh gh (blk_lt e3) e2).1.trans e3, e4⟩
    · rcases hv with hv | ⟨g, c, cs, hv, hg, hc, hcs, hi⟩
      · exact .inl hv
      · exact .inr ⟨g, c, cs, hv, (hh g (blk_lt hcs) hg).2, hc, (hh g (blk_lt hcs) hg).1.trans hcs, hi⟩
theorem NV.chg {w w' : World} {S S' M : Nat → Prop} {v : ByteArray × Value × Value} {x : Rx} (h : NV w S v x) (hc : Chg M w w') (hm : ∀ k, k < w.heap.size → S k → ¬ M k) (hs : ∀ k, k < w.heap.size → S k → S' k) : NV w' S' v x :=
  h.frame fun k hk hS => ⟨hc.block k hk (hm k hk hS), hs k hk hS⟩
theorem NV.one {w : World} {S : Nat → Prop} {v : ByteArray × Value × Value} {x : Rx} (h : NV w S v x) : v.1 = kname x ∧ IsSl v.2.1 ∧ IsSl v.2.2 := by
  cases h
  refine ⟨rfl, ?_, ?_⟩ <;> assumption
theorem NV.byte {w : World} {S : Nat → Prop} {h : Nat} {bs : List Bool} {P : Nat → Bool} (hb : Bools w h bs) (hs : Sees P bs) (hS : S h) : NV w S (⟨#[98, 121, 116, 101]⟩, .slice (some ⟨h, 0, none⟩) 256 256, .slice none 0 0) (.byte P) :=
  .mk (.byte P) _ _ [] ⟨_, _, _, rfl⟩ ⟨_, _, _, rfl⟩ (fun Q e => by injection e with e; subst e; exact ⟨h, bs, rfl, hS, hb, hs⟩) rfl (.inl ⟨rfl, rfl⟩) (fun i u y h => by simp at h)

/-- What one of the reader's functions has done; n: levels left. -/
def NRes (g : Nat) (s : ByteArray) (deep : Int) (n : Nat) (w : World) (r : Except Nat (Rx × Nat)) (e : Ending) (w' : World) : Prop :=
  Chg (· = g) w w' ∧ match r with
  | .ok (x, j) => ∃ K h k, e = .returned (.agg #[.string K, h, k]) ∧ NV w' (fun k => w.heap.size ≤ k) (K, h, k) x ∧ RS w' g s (j : Nat) deep 0 ∧ j ≤ s.size
  | .error er => (∃ K h k, e = .returned (.agg #[.string K, h, k]) ∧ IsSl h ∧ IsSl k) ∧ er ≠ 0 ∧ ∃ (a : Nat) (d : Int), RS w' g s (a : Nat) d er ∧ a ≤ s.size + 3 + n
def RecR (g : Nat) (s : ByteArray) (deep : Int) (n : Nat) (f : Nat → Except Nat (Rx × Nat)) : Prop :=
  ∀ (i : Nat) (w : World), i ≤ s.size → RS w g s i deep 0 → Calls Tryd.prog 32 #[.pointer (some ⟨g, 0, none⟩)] w (NRes g s deep n w (f i))
theorem class_calls2 (g : Nat) (s : ByteArray) (i : Nat) (deep : Int) (w : World) (hs : s.size ≤ 64) (hi : i ≤ s.size) (hp : RS w g s i deep 0) :
    Calls Tryd.prog 72 #[.pointer (some ⟨g, 0, none⟩)] w (CRes g s deep w (Rx.pClass (bys s) i)) := by
  unfold Rx.pClass
  rw [bys_len]
  by_cases h : (bys s)[i]? = some 94
  · rw [if_pos h]; exact class_yes g s i deep w hs hi hp h
  · rw [if_neg h]; exact class_no g s i deep w hs hi hp h
theorem only_one (c : Nat) (hc : c < 256) (w : World) :
    Calls Tryd.prog 73 #[.int .i64 (c : Int), .int .i64 (c : Int), .bool false] w fun e w' => ∃ (h : Nat) (bs : List Bool), e = .returned (.agg #[.string ⟨#[98, 121, 116, 101]⟩, .slice (some ⟨h, 0, none⟩) 256 256, .slice none 0 0]) ∧ w.heap.size ≤ h ∧ Bools w' h bs ∧ Sees (fun x => x == c) bs ∧ Chg (fun _ => False) w w' :=
  (only_calls c c w).mono fun e w' ⟨h, bs, h1, h2, h3, h4, h5⟩ => ⟨h, bs, h1, h2, h3, ⟨h4.1, fun x hx => by
    rw [h4.2 x hx, Option.some.injEq, Bool.eq_iff_iff]
    simp only [Bool.and_eq_true, decide_eq_true_eq, beq_iff_eq]
    omega⟩, h5⟩
theorem only_all (w : World) :
    Calls Tryd.prog 73 #[.int .i64 0, .int .i64 255, .bool false] w fun e w' => ∃ (h : Nat) (bs : List Bool), e = .returned (.agg #[.string ⟨#[98, 121, 116, 101]⟩, .slice (some ⟨h, 0, none⟩) 256 256, .slice none 0 0]) ∧ w.heap.size ≤ h ∧ Bools w' h bs ∧ Sees (fun _ => true) bs ∧ Chg (fun _ => False) w w' :=
  (only_calls 0 255 w).mono fun e w' ⟨h, bs, h1, h2, h3, h4, h5⟩ => ⟨h, bs, h1, h2, h3, ⟨h4.1, fun x hx => by
    rw [h4.2 x hx, Option.some.injEq, Bool.eq_iff_iff]
    simp only [Bool.and_eq_true, decide_eq_true_eq, iff_true]
    omega⟩, h5⟩
theorem NX.alloc {w : World} {b : Nat} {K : ByteArray} {h k : Value} (hn : NX w b K h k) (o : Obj) : NX (w.alloc o) b K h k := blk_alloc hn o
theorem chg_res2 {g : Nat} {w wm : World} (h : Chg (· = g) w wm) (x y z : Value) : Chg (· = g) w (((wm.setCell ⟨w.heap.size, 0, none⟩ x).setCell ⟨w.heap.size, 1, none⟩ y).setCell ⟨w.heap.size, 2, none⟩ z) :=
  ((h.setCell (p := ⟨w.heap.size, 0, none⟩) (.inr (Nat.le_refl _)) x).setCell (p := ⟨w.heap.size, 1, none⟩) (.inr (Nat.le_refl _)) y).setCell (p := ⟨w.heap.size, 2, none⟩) (.inr (Nat.le_refl _)) z
theorem nres_ok {g n : Nat} {s : ByteArray} {deep : Int} {w wm : World} {K : ByteArray} {h k : Value} {x : Rx} {j : Nat} {a b c : Value} (hg : g < w.heap.size) (hc : Chg (· = g) w wm) (hv : NV wm (fun k => w.heap.size < k) (K, h, k) x) (hp : RS wm g s (j : Nat) deep 0) (hj : j ≤ s.size) :
    NRes g s deep n w (.ok (x, j)) (.returned (.agg #[.string K, h, k])) (((wm.setCell ⟨w.heap.size, 0, none⟩ a).setCell ⟨w.heap.size, 1, none⟩ b).setCell ⟨w.heap.size, 2, none⟩ c) :=
  ⟨chg_res2 hc a b c, K, h, k, rfl, hv.frame fun m hm hS => ⟨by
    rw [Below.heap_setCell _ _ _ _ (by simp; omega), Below.heap_setCell _ _ _ _ (by simp; omega), Below.heap_setCell _ _ _ _ (by simp; omega)], by omega⟩,
    ((hp.far (by simp; omega) _).far (by simp; omega) _).far (by simp; omega) _, hj⟩
theorem nres_err {g n : Nat} {s : ByteArray} {deep d : Int} {w wm : World} {K : ByteArray} {h k : Value} {er a : Nat} {x y z : Value} (hg : g < w.heap.size) (hc : Chg (· = g) w wm) (hh : IsSl h) (hk : IsSl k) (hne : er ≠ 0) (hp : RS wm g s (a : Nat) d er) (ha : a ≤ s.size + 3 + n) :
    NRes g s deep n w (.error er) (.returned (.agg #[.string K, h, k])) (((wm.setCell ⟨w.heap.size, 0, none⟩ x).setCell ⟨w.heap.size, 1, none⟩ y).setCell ⟨w.heap.size, 2, none⟩ z) :=
  ⟨chg_res2 hc x y z, ⟨K, h, k, rfl, hh, hk⟩, hne, a, d, ((hp.far (by simp; omega) _).far (by simp; omega) _).far (by simp; omega) _, ha⟩
theorem isSl (A : Option Addr) (n c : Nat) : IsSl (.slice A n c) := ⟨A, n, c, rfl⟩

set_option maxRecDepth 100000 in
set_option maxHeartbeats 8000000 in
theorem part_calls2 (g : Nat) (s : ByteArray) (i : Nat) (deep : Int) (n : Nat) (f : Nat → Except Nat (Rx × Nat)) (w : World) (hs : s.size ≤ 64) (hi : i < s.size) (hp : RS w g s i deep 0) (hn : n ≤ 8) (HF : RecR g s deep n f) :
    Calls Tryd.prog 64 #[.pointer (some ⟨g, 0, none⟩)] w (NRes g s deep (n + 1) w (Rx.pPart f (bys s) i)) := by
  have hb := bys_get s i hi
  have hnx := Lib.hid (nx_some hb)
  have hg := hp.lt
  have hcb : s[i].toNat < 256 := UInt8.toNat_lt _
  have hgR : ¬ w.heap.size = g := by omega
  have hgR2 : ¬ g = w.heap.size := by omega
  generalize s[i].toNat = c at *
  by_cases h40 : c = 40
  · subst h40
    cases hf : f (i + 1) with
    | error er =>
      have hR : Rx.pPart f (bys s) i = .error er := by simp only [Rx.pPart, hb, if_true, hf]
      rw [hR]
      have HFF := Lib.hid hf
      have HFI := Lib.hid (HF (i + 1))
      clear hR hb hf HF
      go_enter Tryd.func64, Tryd.ntmps64
      go_wp2_with (first | (go_at_call 51; (fail_if_success (have := hpB)); ((refine (next_calls2 g s i deep 0 _ hs (by exact hp.alloc _)).mono ?_); rintro e w1 ⟨rfl, ⟨n1, rfl⟩, hpA⟩; have pA1 := hpA.c1; have pAf := hpA.f 1; have hpB := Lib.hid hpA; rw [hnx.out])) | (go_at_call 32; ((refine (HFI.out _ (by omega) (((hpB.out.drewN _).set1 _).cast (by omega))).mono ?_); rintro e w2 hr2; rw [HFF.out] at hr2; obtain ⟨hc2, ⟨K2, h2, k2, rfl, ⟨hA, hN, hC, rfl⟩, ⟨kA, kN, kC, rfl⟩⟩, hne, a2, d2, hp2, ha2⟩ := hr2; have her : ((er : Int) == 0) = false := (by simp; omega); have hpD := hp2.alloc (.cells #[.string K2, .slice hA hN hC, .slice kA kN kC] 50); have d1 := hpD.c1; have d3 := hpD.c3; have df := hpD.f 1; have hz2 : w.heap.size + 1 ≤ w2.heap.size := (by have := hc2.size; simp [size_set] at this; exact this); have hgz : ¬ g = w2.heap.size := (by omega); have hgz2 : ¬ w2.heap.size = g := (by omega); have hwz : ¬ w.heap.size = w2.heap.size := (by omega); have hwz2 : ¬ w2.heap.size = w.heap.size := (by omega); have hRw2 := NX.chg (M := (· = g)) (w := w.alloc (.cells #[.string ⟨#[]⟩, .slice none 0 0, .slice none 0 0] 50)) (w' := w2) (show NX (w.alloc (.cells #[.string ⟨#[]⟩, .slice none 0 0, .slice none 0 0] 50)) w.heap.size _ _ _ from blk_new w (.cells #[.string ⟨#[]⟩, .slice none 0 0, .slice none 0 0] 50)) (by repeat (first | exact Chg.refl _ _ | with_reducible apply Chg.drewN | with_reducible apply Chg.setG | with_reducible apply Chg.alloc | with_reducible refine Chg.trans ?_ hc3 | with_reducible refine Chg.trans ?_ hc2)) hgR; have hQw2 := hRw2.alloc (.cells #[.string K2, .slice hA hN hC, .slice kA kN kC] 50); have rr0 := hQw2.c0; have rr1 := hQw2.c1; have rr2 := hQw2.c2; have rf0 := hQw2.f 0; have rf1 := hQw2.f 1; have rf2 := hQw2.f 2)))
      refine bodyPost_ret (v := .agg #[.string K2, .slice hA hN hC, .slice kA kN kC]) (by simp [results, Tryd.results64, go_sem, rr0, rr1, rr2, hgR, hgR2]) rfl ?_
      exact nres_err hg (by repeat (first | exact Chg.refl _ _ | with_reducible apply Chg.drewN | with_reducible apply Chg.setG | with_reducible apply Chg.alloc | with_reducible refine Chg.trans ?_ hc3 | with_reducible refine Chg.trans ?_ hc2)) (isSl _ _ _) (isSl _ _ _) hne (a := a2 + 1) ((hpD.set1 _).cast (by omega)) (by omega)
    | ok xj =>
      obtain ⟨x, j⟩ := xj
      have HFF := Lib.hid hf
      have HFI := Lib.hid (HF (i + 1))
      by_cases hj : (bys s)[j]? = some 41
      · have hR : Rx.pPart f (bys s) i = .ok (x, j + 1) := by simp only [Rx.pPart, hb, if_true, hf, if_pos hj]
        rw [hR]
        have hjs : j < s.size := by have := (List.getElem?_eq_some_iff.1 hj).1; rwa [bys_len] at this
        have e41 : (nx s j == 41) = true := (nx_eq s j 41).trans (decide_eq_true hj)
        clear hR hb hf HF hj
        go_enter Tryd.func64, Tryd.ntmps64
        go_wp2_with (first | (go_at_call 51; (fail_if_success (have := hpB)); ((refine (next_calls2 g s i deep 0 _ hs (by exact hp.alloc _)).mono ?_); rintro e w1 ⟨rfl, ⟨n1, rfl⟩, hpA⟩; have pA1 := hpA.c1; have pAf := hpA.f 1; have hpB := Lib.hid hpA; rw [hnx.out])) | (go_at_call 32; ((refine (HFI.out _ (by omega) (((hpB.out.drewN _).set1 _).cast (by omega))).mono ?_); rintro e w2 hr2; rw [HFF.out] at hr2; obtain ⟨hc2, K2, h2, k2, rfl, hv2, hp2, hj2⟩ := hr2; obtain ⟨hA, hN, hC, rfl⟩ := hv2.one.2.1; obtain ⟨kA, kN, kC, rfl⟩ := hv2.one.2.2; have HV2 := Lib.hid hv2; clear hv2; have hpD := hp2.alloc (.cells #[.string K2, .slice hA hN hC, .slice kA kN kC] 50); have d1 := hpD.c1; have d3 := hpD.c3; have df := hpD.f 1; have hz2 : w.heap.size + 1 ≤ w2.heap.size := (by have := hc2.size; simp [size_set] at this; exact this); have hgz : ¬ g = w2.heap.size := (by omega); have hgz2 : ¬ w2.heap.size = g := (by omega); have hwz : ¬ w.heap.size = w2.heap.size := (by omega); have hwz2 : ¬ w2.heap.size = w.heap.size := (by omega); have hRw2 := NX.chg (M := (· = g)) (w := w.alloc (.cells #[.string ⟨#[]⟩, .slice none 0 0, .slice none 0 0] 50)) (w' := w2) (show NX (w.alloc (.cells #[.string ⟨#[]⟩, .slice none 0 0, .slice none 0 0] 50)) w.heap.size _ _ _ from blk_new w (.cells #[.string ⟨#[]⟩, .slice none 0 0, .slice none 0 0] 50)) (by repeat (first | exact Chg.refl _ _ | with_reducible apply Chg.drewN | with_reducible apply Chg.setG | with_reducible apply Chg.alloc | with_reducible refine Chg.trans ?_ hc3 | with_reducible refine Chg.trans ?_ hc2)) hgR; have hQw2 := hRw2.alloc (.cells #[.string K2, .slice hA hN hC, .slice kA kN kC] 50); have rr0 := hQw2.c0; have rr1 := hQw2.c1; have rr2 := hQw2.c2; have rf0 := hQw2.f 0; have rf1 := hQw2.f 1; have rf2 := hQw2.f 2)) | (go_at_call 51; ((refine (next_calls2 g s j deep 0 _ hs (by exact hpD)).mono ?_); rintro e w1 ⟨rfl, ⟨n3, rfl⟩, hpE⟩)))
        refine bodyPost_ret (v := .agg #[.string K2, .slice hA hN hC, .slice kA kN kC]) (by simp [results, Tryd.results64, go_sem, rr0, rr1, rr2, hgR, hgR2]) rfl ?_
        exact nres_ok hg (by repeat (first | exact Chg.refl _ _ | with_reducible apply Chg.drewN | with_reducible apply Chg.setG | with_reducible apply Chg.alloc | with_reducible refine Chg.trans ?_ hc3 | with_reducible refine Chg.trans ?_ hc2)) (HV2.out.chg (M := (· = g)) (by repeat (first | exact Chg.refl _ _ | with_reducible apply Chg.drewN | with_reducible apply Chg.setG | with_reducible apply Chg.alloc | with_reducible refine Chg.trans ?_ hc3)) (fun k hk hS => by simp [size_set] at hS; omega) (fun k hk hS => by simp [size_set] at hS; omega)) (((hpD.drewN _).set1 _).cast (by omega)) (by omega)
      · have hR : Rx.pPart f (bys s) i = .error 27 := by simp only [Rx.pPart, hb, if_true, hf, if_neg hj]
        rw [hR]
        have e41 : (nx s j == 41) = false := (nx_eq s j 41).trans (decide_eq_false hj)
        clear hR hb hf HF hj
        go_enter Tryd.func64, Tryd.ntmps64
        go_wp2_with (first | (go_at_call 51; (fail_if_success (have := hpB)); ((refine (next_calls2 g s i deep 0 _ hs (by exact hp.alloc _)).mono ?_); rintro e w1 ⟨rfl, ⟨n1, rfl⟩, hpA⟩; have pA1 := hpA.c1; have pAf := hpA.f 1; have hpB := Lib.hid hpA; rw [hnx.out])) | (go_at_call 32; ((refine (HFI.out _ (by omega) (((hpB.out.drewN _).set1 _).cast (by omega))).mono ?_); rintro e w2 hr2; rw [HFF.out] at hr2; obtain ⟨hc2, K2, h2, k2, rfl, hv2, hp2, hj2⟩ := hr2; obtain ⟨hA, hN, hC, rfl⟩ := hv2.one.2.1; obtain ⟨kA, kN, kC, rfl⟩ := hv2.one.2.2; have HV2 := Lib.hid hv2; clear hv2; have hpD := hp2.alloc (.cells #[.string K2, .slice hA hN hC, .slice kA kN kC] 50); have d1 := hpD.c1; have d3 := hpD.c3; have df := hpD.f 1; have hz2 : w.heap.size + 1 ≤ w2.heap.size := (by have := hc2.size; simp [size_set] at this; exact this); have hgz : ¬ g = w2.heap.size := (by omega); have hgz2 : ¬ w2.heap.size = g := (by omega); have hwz : ¬ w.heap.size = w2.heap.size := (by omega); have hwz2 : ¬ w2.heap.size = w.heap.size := (by omega); have hRw2 := NX.chg (M := (· = g)) (w := w.alloc (.cells #[.string ⟨#[]⟩, .slice none 0 0, .slice none 0 0] 50)) (w' := w2) (show NX (w.alloc (.cells #[.string ⟨#[]⟩, .slice none 0 0, .slice none 0 0] 50)) w.heap.size _ _ _ from blk_new w (.cells #[.string ⟨#[]⟩, .slice none 0 0, .slice none 0 0] 50)) (by repeat (first | exact Chg.refl _ _ | with_reducible apply Chg.drewN | with_reducible apply Chg.setG | with_reducible apply Chg.alloc | with_reducible refine Chg.trans ?_ hc3 | with_reducible refine Chg.trans ?_ hc2)) hgR; have hQw2 := hRw2.alloc (.cells #[.string K2, .slice hA hN hC, .slice kA kN kC] 50); have rr0 := hQw2.c0; have rr1 := hQw2.c1; have rr2 := hQw2.c2; have rf0 := hQw2.f 0; have rf1 := hQw2.f 1; have rf2 := hQw2.f 2)) | (go_at_call 51; ((refine (next_calls2 g s j deep 0 _ hs (by exact hpD)).mono ?_); rintro e w1 ⟨rfl, ⟨n3, rfl⟩, hpE⟩)) | (go_at_call 33; ((refine (wrong_calls g s j deep 27 _ (by exact hpD.drewN _)).mono ?_); rintro e w3 ⟨rfl, hp3, hc3, hz3⟩; have e1 := hp3.c1; have ef := hp3.f 1; have hB3 := NX.chg (M := (· = g)) (w := w2.alloc (.cells #[.string K2, .slice hA hN hC, .slice kA kN kC] 50)) (w' := w3) (show NX (w2.alloc (.cells #[.string K2, .slice hA hN hC, .slice kA kN kC] 50)) w2.heap.size _ _ _ from blk_new w2 (.cells #[.string K2, .slice hA hN hC, .slice kA kN kC] 50)) (by repeat (first | exact Chg.refl _ _ | with_reducible apply Chg.drewN | with_reducible apply Chg.setG | with_reducible apply Chg.alloc | with_reducible refine Chg.trans ?_ hc3)) hgz2; have v0 := hB3.c0; have v1 := hB3.c1; have v2 := hB3.c2; have hRw3 := NX.chg (M := (· = g)) (w := w.alloc (.cells #[.string ⟨#[]⟩, .slice none 0 0, .slice none 0 0] 50)) (w' := w3) (show NX (w.alloc (.cells #[.string ⟨#[]⟩, .slice none 0 0, .slice none 0 0] 50)) w.heap.size _ _ _ from blk_new w (.cells #[.string ⟨#[]⟩, .slice none 0 0, .slice none 0 0] 50)) (by repeat (first | exact Chg.refl _ _ | with_reducible apply Chg.drewN | with_reducible apply Chg.setG | with_reducible apply Chg.alloc | with_reducible refine Chg.trans ?_ hc3 | with_reducible refine Chg.trans ?_ hc2)) hgR; have rr0 := hRw3.c0; have rr1 := hRw3.c1; have rr2 := hRw3.c2; have rf0 := hRw3.f 0; have rf1 := hRw3.f 1; have rf2 := hRw3.f 2)))
        refine bodyPost_ret (v := .agg #[.string K2, .slice hA hN hC, .slice kA kN kC]) (by simp [results, Tryd.results64, go_sem, rr0, rr1, rr2, hgR, hgR2]) rfl ?_
        exact nres_err hg (by repeat (first | exact Chg.refl _ _ | with_reducible apply Chg.drewN | with_reducible apply Chg.setG | with_reducible apply Chg.alloc | with_reducible refine Chg.trans ?_ hc3 | with_reducible refine Chg.trans ?_ hc2)) (isSl _ _ _) (isSl _ _ _) (by decide) (a := j + 1) ((hp3.set1 _).cast (by omega)) (by omega)
  by_cases h91 : c = 91
  · subst h91
    have hR : Rx.pPart f (bys s) i = Rx.pClass (bys s) (i + 1) := by simp [Rx.pPart, hb]
    rw [hR]
    clear hR hb h40 HF
    cases hf : Rx.pClass (bys s) (i + 1) with
    | error er =>
      have HFF := Lib.hid hf
      clear hf
      go_enter Tryd.func64, Tryd.ntmps64
      go_wp2_with (first | (go_at_call 51; (fail_if_success (have := hpB)); ((refine (next_calls2 g s i deep 0 _ hs (by exact hp.alloc _)).mono ?_); rintro e w1 ⟨rfl, ⟨n1, rfl⟩, hpA⟩; have pA1 := hpA.c1; have pAf := hpA.f 1; have hpB := Lib.hid hpA; rw [hnx.out])) | (go_at_call 72; ((refine (class_calls2 g s (i + 1) deep _ hs (by omega) (((hpB.out.drewN _).set1 _).cast (by omega))).mono ?_); rintro e w3 hr2; rw [HFF.out] at hr2; obtain ⟨hc3, hb3, rfl, hhb, her, a3, hp3, ha3⟩ := hr2; have hRw3 := NX.chg (M := (· = g)) (w := w.alloc (.cells #[.string ⟨#[]⟩, .slice none 0 0, .slice none 0 0] 50)) (w' := w3) (show NX (w.alloc (.cells #[.string ⟨#[]⟩, .slice none 0 0, .slice none 0 0] 50)) w.heap.size _ _ _ from blk_new w (.cells #[.string ⟨#[]⟩, .slice none 0 0, .slice none 0 0] 50)) (by repeat (first | exact Chg.refl _ _ | with_reducible apply Chg.drewN | with_reducible apply Chg.setG | with_reducible apply Chg.alloc | with_reducible refine Chg.trans ?_ hc3 | with_reducible refine Chg.trans ?_ hc2)) hgR; have rr0 := hRw3.c0; have rr1 := hRw3.c1; have rr2 := hRw3.c2; have rf0 := hRw3.f 0; have rf1 := hRw3.f 1; have rf2 := hRw3.f 2)))
      refine bodyPost_ret (v := .agg #[.string ⟨#[98, 121, 116, 101]⟩, .slice (some ⟨hb3, 0, none⟩) 256 256, .slice none 0 0]) (by simp [results, Tryd.results64, go_sem, rr0, rr1, rr2, hgR, hgR2]) rfl ?_
      subst her
      exact nres_err hg (by repeat (first | exact Chg.refl _ _ | with_reducible apply Chg.drewN | with_reducible apply Chg.setG | with_reducible apply Chg.alloc | with_reducible refine Chg.trans ?_ hc3 | with_reducible refine Chg.trans ?_ hc2)) (isSl _ _ _) (isSl _ _ _) (by decide) (a := a3) hp3 (by omega)
    | ok xj =>
      obtain ⟨x, j⟩ := xj
      have HFF := Lib.hid hf
      clear hf
      go_enter Tryd.func64, Tryd.ntmps64
      go_wp2_with (first | (go_at_call 51; (fail_if_success (have := hpB)); ((refine (next_calls2 g s i deep 0 _ hs (by exact hp.alloc _)).mono ?_); rintro e w1 ⟨rfl, ⟨n1, rfl⟩, hpA⟩; have pA1 := hpA.c1; have pAf := hpA.f 1; have hpB := Lib.hid hpA; rw [hnx.out])) | (go_at_call 72; ((refine (class_calls2 g s (i + 1) deep _ hs (by omega) (((hpB.out.drewN _).set1 _).cast (by omega))).mono ?_); rintro e w3 hr2; rw [HFF.out] at hr2; obtain ⟨hc3, hb3, rfl, hhb, bs3, P3, hB3, hS3, hx3, hp3, hj3⟩ := hr2; have hRw3 := NX.chg (M := (· = g)) (w := w.alloc (.cells #[.string ⟨#[]⟩, .slice none 0 0, .slice none 0 0] 50)) (w' := w3) (show NX (w.alloc (.cells #[.string ⟨#[]⟩, .slice none 0 0, .slice none 0 0] 50)) w.heap.size _ _ _ from blk_new w (.cells #[.string ⟨#[]⟩, .slice none 0 0, .slice none 0 0] 50)) (by repeat (first | exact Chg.refl _ _ | with_reducible apply Chg.drewN | with_reducible apply Chg.setG | with_reducible apply Chg.alloc | with_reducible refine Chg.trans ?_ hc3 | with_reducible refine Chg.trans ?_ hc2)) hgR; have rr0 := hRw3.c0; have rr1 := hRw3.c1; have rr2 := hRw3.c2; have rf0 := hRw3.f 0; have rf1 := hRw3.f 1; have rf2 := hRw3.f 2)))
      refine bodyPost_ret (v := .agg #[.string ⟨#[98, 121, 116, 101]⟩, .slice (some ⟨hb3, 0, none⟩) 256 256, .slice none 0 0]) (by simp [results, Tryd.results64, go_sem, rr0, rr1, rr2, hgR, hgR2]) rfl ?_
      subst hx3
      exact nres_ok hg (by repeat (first | exact Chg.refl _ _ | with_reducible apply Chg.drewN | with_reducible apply Chg.setG | with_reducible apply Chg.alloc | with_reducible refine Chg.trans ?_ hc3 | with_reducible refine Chg.trans ?_ hc2)) (NV.byte hB3 hS3 (by simp [size_set] at hhb; omega)) hp3 hj3
  by_cases hbad : c = 42 ∨ c = 43 ∨ c = 63 ∨ c = 93 ∨ c = 123 ∨ c = 125 ∨ c = 94 ∨ c = 36
  · have hR : Rx.pPart f (bys s) i = .error 27 := by simp only [Rx.pPart, hb, if_neg h40, if_neg h91, if_pos hbad]
    rw [hR]
    clear hR hb h40 h91 HF
    rcases hbad with rfl | rfl | rfl | rfl | rfl | rfl | rfl | rfl
    all_goals
      go_enter Tryd.func64, Tryd.ntmps64
      go_wp2_with (first | (go_at_call 51; (fail_if_success (have := hpB)); ((refine (next_calls2 g s i deep 0 _ hs (by exact hp.alloc _)).mono ?_); rintro e w1 ⟨rfl, ⟨n1, rfl⟩, hpA⟩; have pA1 := hpA.c1; have pAf := hpA.f 1; have hpB := Lib.hid hpA; rw [hnx.out])) | (go_at_call 33; ((refine (wrong_calls g s ((i + 1 : Nat) : Int) deep 27 _ (by exact (((hpB.out.drewN _).set1 _).cast (by omega)))).mono ?_); rintro e w3 ⟨rfl, hp3, hc3, hz3⟩; have hRw3 := NX.chg (M := (· = g)) (w := w.alloc (.cells #[.string ⟨#[]⟩, .slice none 0 0, .slice none 0 0] 50)) (w' := w3) (show NX (w.alloc (.cells #[.string ⟨#[]⟩, .slice none 0 0, .slice none 0 0] 50)) w.heap.size _ _ _ from blk_new w (.cells #[.string ⟨#[]⟩, .slice none 0 0, .slice none 0 0] 50)) (by repeat (first | exact Chg.refl _ _ | with_reducible apply Chg.drewN | with_reducible apply Chg.setG | with_reducible apply Chg.alloc | with_reducible refine Chg.trans ?_ hc3 | with_reducible refine Chg.trans ?_ hc2)) hgR; have rr0 := hRw3.c0; have rr1 := hRw3.c1; have rr2 := hRw3.c2; have rf0 := hRw3.f 0; have rf1 := hRw3.f 1; have rf2 := hRw3.f 2)))
      refine bodyPost_ret (v := .agg #[.string ⟨#[]⟩, .slice none 0 0, .slice none 0 0]) (by simp [results, Tryd.results64, go_sem, rr0, rr1, rr2, hgR, hgR2]) rfl ?_
      exact nres_err hg (by repeat (first | exact Chg.refl _ _ | with_reducible apply Chg.drewN | with_reducible apply Chg.setG | with_reducible apply Chg.alloc | with_reducible refine Chg.trans ?_ hc3 | with_reducible refine Chg.trans ?_ hc2)) (isSl _ _ _) (isSl _ _ _) (by decide) (a := i + 1) hp3 (by omega)
  by_cases h46 : c = 46
  · have hR : Rx.pPart f (bys s) i = .ok (.byte (fun _ => true), i + 1) := by simp only [Rx.pPart, hb, if_neg h40, if_neg h91, if_neg hbad, if_pos h46]
    subst h46
    rw [hR]
    clear hR hb h40 h91 hbad HF
    go_enter Tryd.func64, Tryd.ntmps64
    go_wp2_with (first | (go_at_call 51; (fail_if_success (have := hpB)); ((refine (next_calls2 g s i deep 0 _ hs (by exact hp.alloc _)).mono ?_); rintro e w1 ⟨rfl, ⟨n1, rfl⟩, hpA⟩; have pA1 := hpA.c1; have pAf := hpA.f 1; have hpB := Lib.hid hpA; rw [hnx.out])) | (go_at_call 73; ((refine (only_all _).mono ?_); rintro e w3 ⟨hb3, bs3, rfl, hhb, hB3, hS3, hc3'⟩; have hc3 := hc3'.mono (M' := (· = g)) (fun _ _ h => h.elim); have hRw3 := NX.chg (M := (· = g)) (w := w.alloc (.cells #[.string ⟨#[]⟩, .slice none 0 0, .slice none 0 0] 50)) (w' := w3) (show NX (w.alloc (.cells #[.string ⟨#[]⟩, .slice none 0 0, .slice none 0 0] 50)) w.heap.size _ _ _ from blk_new w (.cells #[.string ⟨#[]⟩, .slice none 0 0, .slice none 0 0] 50)) (by repeat (first | exact Chg.refl _ _ | with_reducible apply Chg.drewN | with_reducible apply Chg.setG | with_reducible apply Chg.alloc | with_reducible refine Chg.trans ?_ hc3 | with_reducible refine Chg.trans ?_ hc2)) hgR; have rr0 := hRw3.c0; have rr1 := hRw3.c1; have rr2 := hRw3.c2; have rf0 := hRw3.f 0; have rf1 := hRw3.f 1; have rf2 := hRw3.f 2)))
    refine bodyPost_ret (v := .agg #[.string ⟨#[98, 121, 116, 101]⟩, .slice (some ⟨hb3, 0, none⟩) 256 256, .slice none 0 0]) (by simp [results, Tryd.results64, go_sem, rr0, rr1, rr2, hgR, hgR2]) rfl ?_
    exact nres_ok hg (by repeat (first | exact Chg.refl _ _ | with_reducible apply Chg.drewN | with_reducible apply Chg.setG | with_reducible apply Chg.alloc | with_reducible refine Chg.trans ?_ hc3 | with_reducible refine Chg.trans ?_ hc2)) (NV.byte hB3 hS3 (by simp [size_set] at hhb; omega)) ((((hpB.out.drewN _).set1 _).cast (by omega)).chg hc3' id) (by omega)
  by_cases h92 : c = 92
  · subst h92
    by_cases hj : i + 1 < s.size
    · have hb2 := bys_get s (i + 1) hj
      have hR : Rx.pPart f (bys s) i = .ok (.byte (fun x => x == s[i + 1].toNat), i + 2) := by simp [Rx.pPart, hb, hb2]
      rw [hR]
      have hcd : s[i + 1].toNat < 256 := UInt8.toNat_lt _
      have hnx2 := Lib.hid (nx_some hb2)
      generalize s[i + 1].toNat = c2 at *
      have hc20 : decide ((c2 : Int) < 0) = false := decide_eq_false (by omega)
      clear hR hb h40 h91 hbad h46 hb2 HF
      go_enter Tryd.func64, Tryd.ntmps64
      go_wp2_with (first | (go_at_call 51; (fail_if_success (have := hpB)); ((refine (next_calls2 g s i deep 0 _ hs (by exact hp.alloc _)).mono ?_); rintro e w1 ⟨rfl, ⟨n1, rfl⟩, hpA⟩; have pA1 := hpA.c1; have pAf := hpA.f 1; have hpB := Lib.hid hpA; rw [hnx.out])) | (go_at_call 51; ((refine (next_calls2 g s (i + 1) deep 0 _ hs (by exact (((hpB.out.drewN _).set1 _).cast (by omega)))).mono ?_); rintro e w1 ⟨rfl, ⟨n2, rfl⟩, hpC⟩; rw [hnx2.out]; have q1 := hpC.c1; have qf := hpC.f 1)) | (go_at_call 73; ((refine (only_one c2 hcd _).mono ?_); rintro e w3 ⟨hb3, bs3, rfl, hhb, hB3, hS3, hc3'⟩; have hc3 := hc3'.mono (M' := (· = g)) (fun _ _ h => h.elim); have hRw3 := NX.chg (M := (· = g)) (w := w.alloc (.cells #[.string ⟨#[]⟩, .slice none 0 0, .slice none 0 0] 50)) (w' := w3) (show NX (w.alloc (.cells #[.string ⟨#[]⟩, .slice none 0 0, .slice none 0 0] 50)) w.heap.size _ _ _ from blk_new w (.cells #[.string ⟨#[]⟩, .slice none 0 0, .slice none 0 0] 50)) (by repeat (first | exact Chg.refl _ _ | with_reducible apply Chg.drewN | with_reducible apply Chg.setG | with_reducible apply Chg.alloc | with_reducible refine Chg.trans ?_ hc3 | with_reducible refine Chg.trans ?_ hc2)) hgR; have rr0 := hRw3.c0; have rr1 := hRw3.c1; have rr2 := hRw3.c2; have rf0 := hRw3.f 0; have rf1 := hRw3.f 1; have rf2 := hRw3.f 2)))
      refine bodyPost_ret (v := .agg #[.string ⟨#[98, 121, 116, 101]⟩, .slice (some ⟨hb3, 0, none⟩) 256 256, .slice none 0 0]) (by simp [results, Tryd.results64, go_sem, rr0, rr1, rr2, hgR, hgR2]) rfl ?_
      exact nres_ok hg (by repeat (first | exact Chg.refl _ _ | with_reducible apply Chg.drewN | with_reducible apply Chg.setG | with_reducible apply Chg.alloc | with_reducible refine Chg.trans ?_ hc3 | with_reducible refine Chg.trans ?_ hc2)) (NV.byte hB3 hS3 (by simp [size_set] at hhb; omega)) ((((hpC.drewN _).set1 _).cast (by omega)).chg hc3' id) (by omega)
    · have hR : Rx.pPart f (bys s) i = .error 27 := by simp [Rx.pPart, hb, bys_ge s (i + 1) (by omega)]
      rw [hR]
      have hnx2 := Lib.hid (nx_none (bys_ge s (i + 1) (by omega)))
      clear hR hb h40 h91 hbad h46 HF
      go_enter Tryd.func64, Tryd.ntmps64
      go_wp2_with (first | (go_at_call 51; (fail_if_success (have := hpB)); ((refine (next_calls2 g s i deep 0 _ hs (by exact hp.alloc _)).mono ?_); rintro e w1 ⟨rfl, ⟨n1, rfl⟩, hpA⟩; have pA1 := hpA.c1; have pAf := hpA.f 1; have hpB := Lib.hid hpA; rw [hnx.out])) | (go_at_call 51; ((refine (next_calls2 g s (i + 1) deep 0 _ hs (by exact (((hpB.out.drewN _).set1 _).cast (by omega)))).mono ?_); rintro e w1 ⟨rfl, ⟨n2, rfl⟩, hpC⟩; rw [hnx2.out]; have q1 := hpC.c1; have qf := hpC.f 1)) | (go_at_call 33; ((refine (wrong_calls g s ((i + 2 : Nat) : Int) deep 27 _ (by exact (((hpC.drewN _).set1 _).cast (by omega)))).mono ?_); rintro e w3 ⟨rfl, hp3, hc3, hz3⟩; have hRw3 := NX.chg (M := (· = g)) (w := w.alloc (.cells #[.string ⟨#[]⟩, .slice none 0 0, .slice none 0 0] 50)) (w' := w3) (show NX (w.alloc (.cells #[.string ⟨#[]⟩, .slice none 0 0, .slice none 0 0] 50)) w.heap.size _ _ _ from blk_new w (.cells #[.string ⟨#[]⟩, .slice none 0 0, .slice none 0 0] 50)) (by repeat (first | exact Chg.refl _ _ | with_reducible apply Chg.drewN | with_reducible apply Chg.setG | with_reducible apply Chg.alloc | with_reducible refine Chg.trans ?_ hc3 | with_reducible refine Chg.trans ?_ hc2)) hgR; have rr0 := hRw3.c0; have rr1 := hRw3.c1; have rr2 := hRw3.c2; have rf0 := hRw3.f 0; have rf1 := hRw3.f 1; have rf2 := hRw3.f 2)))
      refine bodyPost_ret (v := .agg #[.string ⟨#[]⟩, .slice none 0 0, .slice none 0 0]) (by simp [results, Tryd.results64, go_sem, rr0, rr1, rr2, hgR, hgR2]) rfl ?_
      exact nres_err hg (by repeat (first | exact Chg.refl _ _ | with_reducible apply Chg.drewN | with_reducible apply Chg.setG | with_reducible apply Chg.alloc | with_reducible refine Chg.trans ?_ hc3 | with_reducible refine Chg.trans ?_ hc2)) (isSl _ _ _) (isSl _ _ _) (by decide) (a := i + 2) hp3 (by omega)
  have hR : Rx.pPart f (bys s) i = .ok (.byte (fun x => x == c), i + 1) := by simp only [Rx.pPart, hb, if_neg h40, if_neg h91, if_neg hbad, if_neg h46, if_neg h92]
  rw [hR]
  obtain ⟨n1, n2, n3, n4, n5, n6, n7, n8⟩ : c ≠ 42 ∧ c ≠ 43 ∧ c ≠ 63 ∧ c ≠ 93 ∧ c ≠ 123 ∧ c ≠ 125 ∧ c ≠ 94 ∧ c ≠ 36 := by simpa only [not_or] using hbad
  have e0 : ((c : Int) == 40) = false := eqb_no h40
  have e1 : ((c : Int) == 91) = false := eqb_no h91
  have e2 : ((c : Int) == 42) = false := eqb_no n1
  have e3 : ((c : Int) == 43) = false := eqb_no n2
  have e4 : ((c : Int) == 63) = false := eqb_no n3
  have e5 : ((c : Int) == 93) = false := eqb_no n4
  have e6 : ((c : Int) == 123) = false := eqb_no n5
  have e7 : ((c : Int) == 125) = false := eqb_no n6
  have e8 : ((c : Int) == 94) = false := eqb_no n7
  have e9 : ((c : Int) == 36) = false := eqb_no n8
  have e10 : ((c : Int) == 46) = false := eqb_no h46
  have e11 : ((c : Int) == 92) = false := eqb_no h92
  clear hR hb h40 h91 hbad h46 h92 n1 n2 n3 n4 n5 n6 n7 n8 HF
  go_enter Tryd.func64, Tryd.ntmps64
  go_wp2_with (first | (go_at_call 51; (fail_if_success (have := hpB)); ((refine (next_calls2 g s i deep 0 _ hs (by exact hp.alloc _)).mono ?_); rintro e w1 ⟨rfl, ⟨n1, rfl⟩, hpA⟩; have pA1 := hpA.c1; have pAf := hpA.f 1; have hpB := Lib.hid hpA; rw [hnx.out])) | (go_at_call 73; ((refine (only_one c hcb _).mono ?_); rintro e w3 ⟨hb3, bs3, rfl, hhb, hB3, hS3, hc3'⟩; have hc3 := hc3'.mono (M' := (· = g)) (fun _ _ h => h.elim); have hRw3 := NX.chg (M := (· = g)) (w := w.alloc (.cells #[.string ⟨#[]⟩, .slice none 0 0, .slice none 0 0] 50)) (w' := w3) (show NX (w.alloc (.cells #[.string ⟨#[]⟩, .slice none 0 0, .slice none 0 0] 50)) w.heap.size _ _ _ from blk_new w (.cells #[.string ⟨#[]⟩, .slice none 0 0, .slice none 0 0] 50)) (by repeat (first | exact Chg.refl _ _ | with_reducible apply Chg.drewN | with_reducible apply Chg.setG | with_reducible apply Chg.alloc | with_reducible refine Chg.trans ?_ hc3 | with_reducible refine Chg.trans ?_ hc2)) hgR; have rr0 := hRw3.c0; have rr1 := hRw3.c1; have rr2 := hRw3.c2; have rf0 := hRw3.f 0; have rf1 := hRw3.f 1; have rf2 := hRw3.f 2)))
  refine bodyPost_ret (v := .agg #[.string ⟨#[98, 121, 116, 101]⟩, .slice (some ⟨hb3, 0, none⟩) 256 256, .slice none 0 0]) (by simp [results, Tryd.results64, go_sem, rr0, rr1, rr2, hgR, hgR2]) rfl ?_
  exact nres_ok hg (by repeat (first | exact Chg.refl _ _ | with_reducible apply Chg.drewN | with_reducible apply Chg.setG | with_reducible apply Chg.alloc | with_reducible refine Chg.trans ?_ hc3 | with_reducible refine Chg.trans ?_ hc2)) (NV.byte hB3 hS3 (by simp [size_set] at hhb; omega)) ((((hpB.out.drewN _).set1 _).cast (by omega)).chg hc3' id) (by omega)
end Go.Proofs.YtmlmnckhiianhaaDoor
