/- The document's pattern reader: a part of bytes, walked. -/
import Derived.Test.YtmlmnckhiianhaaDoorRfA
namespace Go.Proofs.YtmlmnckhiianhaaDoor
open Go.RowKit
set_option linter.unusedVariables false
set_option linter.unusedSimpArgs false

/-- So far a set's bytes are laid. -/
def Upto (P : Nat → Bool) (i : Nat) (bs : List Bool) : Prop := bs.length = 256 ∧ ∀ c, c < 256 → bs[c]? = some (decide (c < i) && P c)
theorem Upto.zero (P : Nat → Bool) : Upto P 0 (List.replicate 256 false) := ⟨List.length_replicate, fun c hc => by rw [List.getElem?_replicate, if_pos hc]; rfl⟩
theorem Upto.step {P : Nat → Bool} {i : Nat} {bs : List Bool} (h : Upto P i bs) (hi : i < 256) (b : Bool) (hb : b = P i) : Upto P (i + 1) (bs.set i b) := by
  refine ⟨by simpa using h.1, fun c hc => ?_⟩
  by_cases e : i = c
  · subst e
    rw [List.getElem?_set_self (by rw [h.1]; exact hi), hb]
    simp
  · rw [List.getElem?_set_ne e, h.2 c hc]
    congr 2
    simp only [decide_eq_decide]; omega
/-- A set of bytes as 256 answers. -/
def Sees (P : Nat → Bool) (bs : List Bool) : Prop := bs.length = 256 ∧ ∀ c, c < 256 → bs[c]? = some (P c)
theorem Upto.done {P : Nat → Bool} {bs : List Bool} (h : Upto P 256 bs) : Sees P bs := ⟨h.1, fun c hc => by rw [h.2 c hc]; simp [hc]⟩
theorem Bools.at {w : World} {g : Nat} {bs : List Bool} (h : Bools w g bs) (i : Nat) (hi : i < bs.length) : w.frozen? ⟨g, i, none⟩ = false := blk_free h

/-- A node's box. -/
def NX (w : World) (b : Nat) (K : ByteArray) (h k : Value) : Prop := w.heap[b]? = some (.cells #[.string K, h, k] 50 (0, 0))
theorem NX.c0 {w : World} {b : Nat} {K : ByteArray} {h k : Value} (hn : NX w b K h k) : w.cell? ⟨b, 0, none⟩ = some (.string K) := (blk_cell hn).trans rfl
theorem NX.c1 {w : World} {b : Nat} {K : ByteArray} {h k : Value} (hn : NX w b K h k) : w.cell? ⟨b, 1, none⟩ = some h := (blk_cell hn).trans rfl
theorem NX.c2 {w : World} {b : Nat} {K : ByteArray} {h k : Value} (hn : NX w b K h k) : w.cell? ⟨b, 2, none⟩ = some k := (blk_cell hn).trans rfl
theorem NX.f {w : World} {b : Nat} {K : ByteArray} {h k : Value} (hn : NX w b K h k) (o : Nat) : w.frozen? ⟨b, o, none⟩ = false := blk_free hn
theorem NX.chg {w w' : World} {b : Nat} {K : ByteArray} {h k : Value} (hn : NX w b K h k) {M : Nat → Prop} (hc : Chg M w w') (hm : ¬ M b) : NX w' b K h k := hc.blk hn hm
theorem NX.far {w : World} {b : Nat} {K : ByteArray} {h k : Value} (hn : NX w b K h k) {p : Addr} (hne : b ≠ p.block) (v : Value) : NX (w.setCell p v) b K h k := blk_set_far hn hne v
theorem NX.set2 {w : World} {b : Nat} {K : ByteArray} {h k : Value} (hn : NX w b K h k) (v : Value) : NX (w.setCell ⟨b, 2, none⟩ v) b K h v := blk_set hn _
theorem NX.lt {w : World} {b : Nat} {K : ByteArray} {h k : Value} (hn : NX w b K h k) : b < w.heap.size := blk_lt hn
theorem made1 (w : World) (o o2 : Obj) : Bools (((w.alloc o).alloc (.cells (madeCells #[.bool false] 256) 4)).alloc o2) (w.heap.size + 1) (List.replicate 256 false) := by
  have h := Bools.made (w.alloc o) 256
  have e : (w.alloc o).heap.size = w.heap.size + 1 := by simp
  rw [e] at h
  exact h.chg ((Chg.refl (fun _ => False) _).alloc _) id
/-- only: a part of bytes. -/
theorem only_calls (lo hi : Int) (w : World) :
    Calls Tryd.prog 73 #[.int .i64 lo, .int .i64 hi, .bool false] w fun e w' => ∃ (h : Nat) (bs : List Bool), e = .returned (.agg #[.string ⟨#[98, 121, 116, 101]⟩, .slice (some ⟨h, 0, none⟩) 256 256, .slice none 0 0]) ∧ w.heap.size ≤ h ∧ Bools w' h bs ∧ Sees (fun c => decide (lo ≤ (c : Int)) && decide ((c : Int) ≤ hi)) bs ∧ Chg (fun _ => False) w w' := by
  obtain ⟨i0, hinf, hz0, hz1, hz2⟩ := info_parts Tryd.infoBool
  have hby : i0.bytes * 256 ≤ 281474976710656 := by rw [hz2]; omega
  go_enter Tryd.func73, Tryd.ntmps73
  go_wp2_with (at_make; refine wpList_make_row _ rfl (.const (.int .i64 256)) (.const (.int .i64 256)) 47 rfl 4 i0 (.bool false) Tryd.underlying47 hinf hz0 hz1 rfl .i64 .i64 256 rfl rfl hby (by omega) ?_)
  generalize hP : (fun c : Nat => decide (lo ≤ (c : Int)) && decide ((c : Int) ≤ hi)) = P
  have HPP : Hid (∀ i : Nat, P i = (decide (lo ≤ (i : Int)) && decide ((i : Int) ≤ hi))) := Lib.hid (fun i => by rw [← hP])
  clear hP
  go_loopg [8] 257 (fun k u8 wr => ∃ (i : Nat) (bs : List Bool), u8 = .int .i64 (i : Int) ∧ i + k = 257 ∧ i ≤ 256 ∧ Bools wr (w.heap.size + 1) bs ∧ Hid (Upto P i bs) ∧ NX wr (w.heap.size + 1 + 1) ⟨#[98, 121, 116, 101]⟩ (.slice (some ⟨w.heap.size + 1, 0, none⟩) 256 256) (.slice none 0 0) ∧ NX wr w.heap.size ⟨#[]⟩ (.slice none 0 0) (.slice none 0 0) ∧ Chg (fun _ => False) w wr)
  case atStart => exact ⟨0, List.replicate 256 false, rfl, by omega, by omega, (made1 _ _ _), Lib.hid (Upto.zero P), blk_new' _ _ _ (by simp), blk_alloc (blk_alloc (blk_new w _) _) _, (((Chg.refl (fun _ => False) w).alloc _).alloc _).alloc _⟩
  case round =>
    obtain ⟨i, bs, rfl, hik, hi2, hb, hU, hbox, hres, hch⟩ := hrel
    obtain ⟨wo, rfl⟩ : ∃ m : World, m = wr := ⟨_, rfl⟩
    have hbx := hbox.c1
    by_cases hlt : i < 256
    · have hc1 : decide ((i : Int) < 256) = true := decide_eq_true (by omega)
      obtain ⟨b0, hb0⟩ : ∃ b0, bs[i]? = some b0 := ⟨_, hU.out.2 i hlt⟩
      have hcb := hb.c hb0
      have hfb : wo.frozen? ⟨w.heap.size + 1, i, none⟩ = false := blk_free hb
      have hi3 : (0 : Int) ≤ (i : Int) := by omega
      have hi4 : (i : Int) < 256 := by omega
      have hPi := Lib.hid (HPP.out i)
      clear hb0
      generalize hA : decide (lo ≤ (i : Int)) = A at *
      generalize hB : decide ((i : Int) ≤ hi) = B at *
      cases A with
      | false =>
        go_wp2
        go_roundg (gk - 1)
        case measure => omega
        case rel => exact ⟨i + 1, _, by go_num, by omega, by omega, hb.set i _, Lib.hid (hU.out.step hlt _ hPi.out.symm), hbox.far (by simp) _, hres.far (by simp) _, hch.setCell (.inr (by simp)) _⟩
      | true =>
        go_wp2
        go_roundg (gk - 1)
        case measure => omega
        case rel => exact ⟨i + 1, _, by go_num, by omega, by omega, hb.set i _, Lib.hid (hU.out.step hlt _ hPi.out.symm), hbox.far (by simp) _, hres.far (by simp) _, hch.setCell (.inr (by simp)) _⟩
    · have hc1 : decide ((i : Int) < 256) = false := decide_eq_false (by omega)
      obtain rfl : i = 256 := by omega
      have hbx0 := hbox.c0
      have hbx2 := hbox.c2
      have r0 := hres.c0
      have r1 := hres.c1
      have r2 := hres.c2
      have f0 := hres.f 0
      have f1 := hres.f 1
      have f2 := hres.f 2
      go_wp2
      refine bodyPost_ret (v := .agg #[.string ⟨#[98, 121, 116, 101]⟩, .slice (some ⟨w.heap.size + 1, 0, none⟩) 256 256, .slice none 0 0]) (by simp [results, Tryd.results73, go_sem, r0, r1, r2]) rfl ⟨_, bs, rfl, by omega, ?_, (by have := hU.out.done; rw [show P = (fun c : Nat => decide (lo ≤ (c : Int)) && decide ((c : Int) ≤ hi)) from funext HPP.out] at this; exact this), ((hch.setCell (p := ⟨w.heap.size, 0, none⟩) (.inr (Nat.le_refl _)) _).setCell (p := ⟨w.heap.size, 1, none⟩) (.inr (Nat.le_refl _)) _).setCell (p := ⟨w.heap.size, 2, none⟩) (.inr (Nat.le_refl _)) _⟩
      exact blk_set_far (blk_set_far (blk_set_far hb (by simp) _) (by simp) _) (by simp) _
end Go.Proofs.YtmlmnckhiianhaaDoor
