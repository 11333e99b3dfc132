/- The document's pattern reader: a part of bytes, walked. -/
import Derived.Test.YtmlmnckhiianhaaDoorRxT
import Derived.Lib.QuietBelow
namespace Go.Proofs.YtmlmnckhiianhaaDoor
open Go.RowKit
set_option linter.unusedVariables false
set_option linter.unusedSimpArgs false

/-- The reader's state at block g. -/
def RS (w : World) (g : Nat) (s : ByteArray) (at_ deep bad : Int) : Prop := w.heap[g]? = some (.cells #[.string s, .int .i64 at_, .int .i64 deep, .int .i64 bad] 75 (0, 0))
theorem RS.c0 {w : World} {g : Nat} {s : ByteArray} {a d b : Int} (h : RS w g s a d b) : w.cell? ⟨g, 0, none⟩ = some (.string s) := (blk_cell h).trans rfl
theorem RS.c1 {w : World} {g : Nat} {s : ByteArray} {a d b : Int} (h : RS w g s a d b) : w.cell? ⟨g, 1, none⟩ = some (.int .i64 a) := (blk_cell h).trans rfl
theorem RS.c2 {w : World} {g : Nat} {s : ByteArray} {a d b : Int} (h : RS w g s a d b) : w.cell? ⟨g, 2, none⟩ = some (.int .i64 d) := (blk_cell h).trans rfl
theorem RS.c3 {w : World} {g : Nat} {s : ByteArray} {a d b : Int} (h : RS w g s a d b) : w.cell? ⟨g, 3, none⟩ = some (.int .i64 b) := (blk_cell h).trans rfl
theorem RS.f {w : World} {g : Nat} {s : ByteArray} {a d b : Int} (h : RS w g s a d b) (o : Nat) : w.frozen? ⟨g, o, none⟩ = false := blk_free h
theorem RS.set1 {w : World} {g : Nat} {s : ByteArray} {a d b : Int} (h : RS w g s a d b) (x : Int) : RS (w.setCell ⟨g, 1, none⟩ (.int .i64 x)) g s x d b := blk_set h _
theorem RS.set2 {w : World} {g : Nat} {s : ByteArray} {a d b : Int} (h : RS w g s a d b) (x : Int) : RS (w.setCell ⟨g, 2, none⟩ (.int .i64 x)) g s a x b := blk_set h _
theorem RS.set3 {w : World} {g : Nat} {s : ByteArray} {a d b : Int} (h : RS w g s a d b) (x : Int) : RS (w.setCell ⟨g, 3, none⟩ (.int .i64 x)) g s a d x := blk_set h _
theorem RS.alloc {w : World} {g : Nat} {s : ByteArray} {a d b : Int} (h : RS w g s a d b) (o : Obj) : RS (w.alloc o) g s a d b := blk_alloc h o
theorem RS.drewN {w : World} {g : Nat} {s : ByteArray} {a d b : Int} (h : RS w g s a d b) (n : Nat) : RS (w.drewN n) g s a d b := h
theorem RS.drew {w : World} {g : Nat} {s : ByteArray} {a d b : Int} (h : RS w g s a d b) : RS w.drew g s a d b := h
theorem RS.far {w : World} {g : Nat} {s : ByteArray} {a d b : Int} (h : RS w g s a d b) {p : Addr} (hne : g ≠ p.block) (v : Value) : RS (w.setCell p v) g s a d b := blk_set_far h hne v
theorem RS.lt {w : World} {g : Nat} {s : ByteArray} {a d b : Int} (h : RS w g s a d b) : g < w.heap.size := blk_lt h
theorem RS.chg {w w' : World} {g : Nat} {s : ByteArray} {a d b : Int} (h : RS w g s a d b) {M : Nat → Prop} (hc : Chg M w w') (hn : ¬ M g) : RS w' g s a d b := hc.blk h hn
theorem RS.cast {w : World} {g : Nat} {s : ByteArray} {a a' d b : Int} (h : RS w g s a d b) (e : a = a') : RS w g s a' d b := e ▸ h

/-- The next byte, or -1. -/
def nx (s : ByteArray) (i : Nat) : Int := match (bys s)[i]? with
  | some c => c
  | none => -1
theorem nx_some {s : ByteArray} {i c : Nat} (h : (bys s)[i]? = some c) : nx s i = c := by unfold nx; rw [h]
theorem nx_none {s : ByteArray} {i : Nat} (h : (bys s)[i]? = none) : nx s i = -1 := by unfold nx; rw [h]
theorem next_calls (g : Nat) (s : ByteArray) (i : Nat) (deep bad : Int) (w : World) (hs : s.size ≤ 64) (hp : RS w g s i deep bad) :
    Calls Tryd.prog 51 #[.pointer (some ⟨g, 0, none⟩)] w fun e w' => e = .returned (.int .i64 (nx s i)) ∧ ∃ n, w' = w.drewN n := by
  have h0 := hp.c0
  have h1 := hp.c1
  clear hp
  by_cases hlt : i < s.size
  · have hk : nx s i = (s[i].toNat : Int) := nx_some (bys_get s i hlt)
    have hge : decide (s.size ≤ i) = false := decide_eq_false (by omega)
    have hi1 : (0 : Int) ≤ (i : Int) := by omega
    have hi2 : (i : Int) < (s.size : Int) := by omega
    have HK := Lib.hid hk
    clear hk
    go_enter Tryd.func51, Tryd.ntmps51
    go_wp2
    go_quiet (fail)
    go_wp2
    go_quiet (fail)
    go_wp2
    go_ret
    refine ⟨?_, _, World.drewN_drewN _ _ _⟩
    rw [HK.out]
    exact congrArg (fun b => Ending.returned (.int .i64 b)) (IntWalk.wrap64_in (s[i].toNat : Int) (by have := UInt8.toNat_lt s[i]; omega))
  · have hk : nx s i = -1 := nx_none (bys_ge s i (by omega))
    rw [hk]
    have hge : decide (s.size ≤ i) = true := decide_eq_true (by omega)
    clear hk
    go_enter Tryd.func51, Tryd.ntmps51
    go_wp2
    go_quiet (fail)
    go_wp2
    go_ret
    exact ⟨rfl, _, rfl⟩

/-- wrong: what is wrong first. -/
theorem wrong_calls (g : Nat) (s : ByteArray) (i : Int) (deep c : Int) (w : World) (hp : RS w g s i deep 0) :
    Calls Tryd.prog 33 #[.pointer (some ⟨g, 0, none⟩), .int .i64 c] w fun e w' => e = .returned (.tuple #[]) ∧ RS w' g s i deep c ∧ Chg (· = g) w w' ∧ w'.heap.size = w.heap.size := by
  have h3 := hp.c3
  have f3 := hp.f 3
  go_enter Tryd.func33, Tryd.ntmps33
  go_wp2
  go_end0
  exact ⟨rfl, hp.set3 c, (Chg.refl (· = g) w).setCell (p := ⟨g, 3, none⟩) (.inl rfl) _, size_set _ _ _⟩

/-- item: a byte of a class. -/
def ItemRes (g : Nat) (s : ByteArray) (deep : Int) (w : World) (r : Except Nat (Nat × Nat)) (e : Ending) (w' : World) : Prop :=
  Chg (· = g) w w' ∧ w'.heap.size = w.heap.size ∧ match r with
  | .ok (c, j) => e = .returned (.int .i64 (c : Nat)) ∧ RS w' g s (j : Nat) deep 0 ∧ c < 256 ∧ j ≤ s.size
  | .error er => e = .returned (.int .i64 0) ∧ er = 27 ∧ ∃ a : Nat, RS w' g s (a : Nat) deep er ∧ a ≤ s.size

set_option maxHeartbeats 1000000 in
theorem item_calls (g : Nat) (s : ByteArray) (i : Nat) (deep : Int) (w : World) (hs : s.size ≤ 64) (hi : i ≤ s.size) (hp : RS w g s i deep 0) :
    Calls Tryd.prog 76 #[.pointer (some ⟨g, 0, none⟩)] w (ItemRes g s deep w (Rx.pOne (bys s) i)) := by
  by_cases hb : (bys s)[i]? = some 92
  · have hi2 : i < s.size := by
      rcases Nat.lt_or_ge i s.size with h | h
      · exact h
      · rw [bys_ge s i h] at hb; cases hb
    have hn := nx_some hb
    have h1 := hp.c1
    have f1 := hp.f 1
    by_cases hj : i + 1 < s.size
    · have hr : Rx.pOne (bys s) i = .ok (s[i + 1].toNat, i + 2) := by simp [Rx.pOne, hb, bys_get s (i + 1) hj]
      have hn2 := nx_some (bys_get s (i + 1) hj)
      rw [hr]
      clear hr hb
      have hc256 : s[i + 1].toNat < 256 := UInt8.toNat_lt _
      generalize s[i + 1].toNat = c at *
      have HN := Lib.hid hn
      have HN2 := Lib.hid hn2
      clear hn hn2
      have hge : decide ((c : Int) < 0) = false := decide_eq_false (by omega)
      go_enter Tryd.func76, Tryd.ntmps76
      go_wp2_with (first | (go_at_call 51; (fail_if_success (have := hp2)); ((refine (next_calls g s i deep 0 _ hs hp).mono ?_); rintro e w1 ⟨rfl, n, rfl⟩; rw [HN.out]; have hp2 := Lib.hid (((hp.drewN n).set1 ((i : Int) + 1)).cast (a' := ((i + 1 : Nat) : Int)) (by omega)))) | (go_at_call 51; ((refine (next_calls g s (i + 1) deep 0 _ hs (by exact hp2.out)).mono ?_); rintro e w1 ⟨rfl, n2, rfl⟩; rw [HN2.out])))
      go_ret
      refine ⟨(((((Chg.refl (· = g) w).drewN n).setCell (p := ⟨g, 1, none⟩) (.inl rfl) _).drewN n2).setCell (p := ⟨g, 1, none⟩) (.inl rfl) _), by simp [size_set], rfl, ((hp2.out.drewN n2).set1 _).cast (by omega), hc256, by omega⟩
    · have hr : Rx.pOne (bys s) i = .error 27 := by simp [Rx.pOne, hb, bys_ge s (i + 1) (by omega)]
      have hn2 := nx_none (bys_ge s (i + 1) (by omega))
      rw [hr]
      clear hr hb
      have HN := Lib.hid hn
      have HN2 := Lib.hid hn2
      clear hn hn2
      go_enter Tryd.func76, Tryd.ntmps76
      go_wp2_with (first | (go_at_call 51; (fail_if_success (have := hp2)); ((refine (next_calls g s i deep 0 _ hs hp).mono ?_); rintro e w1 ⟨rfl, n, rfl⟩; rw [HN.out]; have hp2 := Lib.hid (((hp.drewN n).set1 ((i : Int) + 1)).cast (a' := ((i + 1 : Nat) : Int)) (by omega)))) | (go_at_call 51; ((refine (next_calls g s (i + 1) deep 0 _ hs (by exact hp2.out)).mono ?_); rintro e w1 ⟨rfl, n2, rfl⟩; rw [HN2.out])) | (go_at_call 33; ((refine (wrong_calls g s ((i + 1 : Nat) : Int) deep 27 _ (by first | exact hp2.out.drewN _ | exact hp.drewN _)).mono ?_); rintro e w3 ⟨rfl, hp3, hc3, hz3⟩)))
      go_ret
      refine ⟨((((Chg.refl (· = g) w).drewN n).setCell (p := ⟨g, 1, none⟩) (.inl rfl) _).drewN n2).trans hc3, hz3.trans (by simp [size_set]), rfl, rfl, i + 1, hp3, by omega⟩
  · by_cases hj : i < s.size
    · have hr : Rx.pOne (bys s) i = .ok (s[i].toNat, i + 1) := by unfold Rx.pOne; rw [if_neg hb]; simp only [bys_get s i hj]
      have hn := nx_some (bys_get s i hj)
      rw [hr]
      have h1 := hp.c1
      have f1 := hp.f 1
      have hc256 : s[i].toNat < 256 := UInt8.toNat_lt _
      have hne : s[i].toNat ≠ 92 := fun e => hb (by rw [bys_get s i hj, e])
      clear hr hb
      generalize s[i].toNat = c at *
      have h92 : ((c : Int) == 92) = false := by simp; omega
      have HN := Lib.hid hn
      clear hn hne
      have hge : decide ((c : Int) < 0) = false := decide_eq_false (by omega)
      go_enter Tryd.func76, Tryd.ntmps76
      go_wp2_with (first | (go_at_call 51; (fail_if_success (have := hp2)); ((refine (next_calls g s i deep 0 _ hs hp).mono ?_); rintro e w1 ⟨rfl, n, rfl⟩; rw [HN.out]; have hp2 := Lib.hid (hp.drewN n))) | (go_at_call 51; ((refine (next_calls g s i deep 0 _ hs (by exact hp2.out)).mono ?_); rintro e w1 ⟨rfl, n2, rfl⟩; rw [HN.out])))
      go_ret
      refine ⟨(((Chg.refl (· = g) w).drewN (n + n2)).setCell (p := ⟨g, 1, none⟩) (.inl rfl) _), by simp [size_set], rfl, ((hp.drewN (n + n2)).set1 _).cast (by omega), hc256, by omega⟩
    · have hr : Rx.pOne (bys s) i = .error 27 := by unfold Rx.pOne; rw [if_neg hb]; simp only [bys_ge s i (show s.size ≤ i by omega)]
      have hn := nx_none (bys_ge s i (show s.size ≤ i by omega))
      rw [hr]
      clear hr hb
      have HN := Lib.hid hn
      clear hn
      go_enter Tryd.func76, Tryd.ntmps76
      go_wp2_with (first | (go_at_call 51; (fail_if_success (have := hp2)); ((refine (next_calls g s i deep 0 _ hs hp).mono ?_); rintro e w1 ⟨rfl, n, rfl⟩; rw [HN.out]; have hp2 := Lib.hid (hp.drewN n))) | (go_at_call 51; ((refine (next_calls g s i deep 0 _ hs (by exact hp2.out)).mono ?_); rintro e w1 ⟨rfl, n2, rfl⟩; rw [HN.out])) | (go_at_call 33; ((refine (wrong_calls g s ((i : Nat) : Int) deep 27 _ (by first | exact hp2.out.drewN _ | exact hp.drewN _)).mono ?_); rintro e w3 ⟨rfl, hp3, hc3, hz3⟩)))
      go_ret
      refine ⟨((Chg.refl (· = g) w).drewN (n + n2)).trans hc3, hz3.trans (by simp), rfl, rfl, i, hp3, by omega⟩
end Go.Proofs.YtmlmnckhiianhaaDoor

namespace Go.Proofs.YtmlmnckhiianhaaDoor
open Go.RowKit
set_option linter.unusedVariables false
set_option linter.unusedSimpArgs false

/-- So far a set's bytes are laid. -/
def Upto (P : Nat → Bool) (i : Nat) (bs : List Bool) : Prop := bs.length = 256 ∧ ∀ c, c < 256 → bs[c]? = some (decide (c < i) && P c)
theorem Upto.zero (P : Nat → Bool) : Upto P 0 (List.replicate 256 false) := ⟨List.length_replicate, fun c hc => by rw [List.getElem?_replicate, if_pos hc]; rfl⟩
theorem Upto.step {P : Nat → Bool} {i : Nat} {bs : List Bool} (h : Upto P i bs) (hi : i < 256) (b : Bool) (hb : b = P i) : Upto P (i + 1) (bs.set i b) := by
  refine ⟨by simpa using h.1, fun c hc => ?_⟩
  by_cases e : i = c
  · subst e
    rw [List.getElem?_set_self (by rw [h.1]; exact hi), hb]
    simp
  · rw [List.getElem?_set_ne e, h.2 c hc]
    congr 2
    simp only [decide_eq_decide]; omega
/-- A set of bytes as 256 answers. -/
def Sees (P : Nat → Bool) (bs : List Bool) : Prop := bs.length = 256 ∧ ∀ c, c < 256 → bs[c]? = some (P c)
theorem Upto.done {P : Nat → Bool} {bs : List Bool} (h : Upto P 256 bs) : Sees P bs := ⟨h.1, fun c hc => by rw [h.2 c hc]; simp [hc]⟩
theorem Bools.at {w : World} {g : Nat} {bs : List Bool} (h : Bools w g bs) (i : Nat) (hi : i < bs.length) : w.frozen? ⟨g, i, none⟩ = false := blk_free h

/-- A node's box. -/
def NX (w : World) (b : Nat) (K : ByteArray) (h k : Value) : Prop := w.heap[b]? = some (.cells #[.string K, h, k] 50 (0, 0))
theorem NX.c0 {w : World} {b : Nat} {K : ByteArray} {h k : Value} (hn : NX w b K h k) : w.cell? ⟨b, 0, none⟩ = some (.string K) := (blk_cell hn).trans rfl
theorem NX.c1 {w : World} {b : Nat} {K : ByteArray} {h k : Value} (hn : NX w b K h k) : w.cell? ⟨b, 1, none⟩ = some h := (blk_cell hn).trans rfl
theorem NX.c2 {w : World} {b : Nat} {K : ByteArray} {h k : Value} (hn : NX w b K h k) : w.cell? ⟨b, 2, none⟩ = some k := (blk_cell hn).trans rfl
theorem NX.f {w : World} {b : Nat} {K : ByteArray} {h k : Value} (hn : NX w b K h k) (o : Nat) : w.frozen? ⟨b, o, none⟩ = false := blk_free hn
theorem NX.chg {w w' : World} {b : Nat} {K : ByteArray} {h k : Value} (hn : NX w b K h k) {M : Nat → Prop} (hc : Chg M w w') (hm : ¬ M b) : NX w' b K h k := hc.blk hn hm
theorem NX.far {w : World} {b : Nat} {K : ByteArray} {h k : Value} (hn : NX w b K h k) {p : Addr} (hne : b ≠ p.block) (v : Value) : NX (w.setCell p v) b K h k := blk_set_far hn hne v
theorem NX.set2 {w : World} {b : Nat} {K : ByteArray} {h k : Value} (hn : NX w b K h k) (v : Value) : NX (w.setCell ⟨b, 2, none⟩ v) b K h v := blk_set hn _
theorem NX.lt {w : World} {b : Nat} {K : ByteArray} {h k : Value} (hn : NX w b K h k) : b < w.heap.size := blk_lt hn
theorem made1 (w : World) (o o2 : Obj) : Bools (((w.alloc o).alloc (.cells (madeCells #[.bool false] 256) 4)).alloc o2) (w.heap.size + 1) (List.replicate 256 false) := by
  have h := Bools.made (w.alloc o) 256
  have e : (w.alloc o).heap.size = w.heap.size + 1 := by simp
  rw [e] at h
  exact h.chg ((Chg.refl (fun _ => False) _).alloc _) id
/-- only: a part of bytes. -/
theorem only_calls (lo hi : Int) (w : World) :
    Calls Tryd.prog 73 #[.int .i64 lo, .int .i64 hi, .bool false] w fun e w' => ∃ (h : Nat) (bs : List Bool), e = .returned (.agg #[.string ⟨#[98, 121, 116, 101]⟩, .slice (some ⟨h, 0, none⟩) 256 256, .slice none 0 0]) ∧ w.heap.size ≤ h ∧ Bools w' h bs ∧ Sees (fun c => decide (lo ≤ (c : Int)) && decide ((c : Int) ≤ hi)) bs ∧ Chg (fun _ => False) w w' := by
  obtain ⟨i0, hinf, hz0, hz1, hz2⟩ := info_parts Tryd.infoBool
  have hby : i0.bytes * 256 ≤ 281474976710656 := by rw [hz2]; omega
  go_enter Tryd.func73, Tryd.ntmps73
  go_wp2_with (at_make; refine wpList_make_row _ rfl (.const (.int .i64 256)) (.const (.int .i64 256)) 47 rfl 4 i0 (.bool false) Tryd.underlying47 hinf hz0 hz1 rfl .i64 .i64 256 rfl rfl hby (by omega) ?_)
  generalize hP : (fun c : Nat => decide (lo ≤ (c : Int)) && decide ((c : Int) ≤ hi)) = P
  have HPP : Hid (∀ i : Nat, P i = (decide (lo ≤ (i : Int)) && decide ((i : Int) ≤ hi))) := Lib.hid (fun i => by rw [← hP])
  clear hP
  go_loopg [8] 257 (fun k u8 wr => ∃ (i : Nat) (bs : List Bool), u8 = .int .i64 (i : Int) ∧ i + k = 257 ∧ i ≤ 256 ∧ Bools wr (w.heap.size + 1) bs ∧ Hid (Upto P i bs) ∧ NX wr (w.heap.size + 1 + 1) ⟨#[98, 121, 116, 101]⟩ (.slice (some ⟨w.heap.size + 1, 0, none⟩) 256 256) (.slice none 0 0) ∧ NX wr w.heap.size ⟨#[]⟩ (.slice none 0 0) (.slice none 0 0) ∧ Chg (fun _ => False) w wr)
  case atStart => exact ⟨0, List.replicate 256 false, rfl, by omega, by omega, (made1 _ _ _), Lib.hid (Upto.zero P), blk_new' _ _ _ (by simp), blk_alloc (blk_alloc (blk_new w _) _) _, (((Chg.refl (fun _ => False) w).alloc _).alloc _).alloc _⟩
  case round =>
    obtain ⟨i, bs, rfl, hik, hi2, hb, hU, hbox, hres, hch⟩ := hrel
    obtain ⟨wo, rfl⟩ : ∃ m : World, m = wr := ⟨_, rfl⟩
    have hbx := hbox.c1
    by_cases hlt : i < 256
    · have hc1 : decide ((i : Int) < 256) = true := decide_eq_true (by omega)
      obtain ⟨b0, hb0⟩ : ∃ b0, bs[i]? = some b0 := ⟨_, hU.out.2 i hlt⟩
      have hcb := hb.c hb0
      have hfb : wo.frozen? ⟨w.heap.size + 1, i, none⟩ = false := blk_free hb
      have hi3 : (0 : Int) ≤ (i : Int) := by omega
      have hi4 : (i : Int) < 256 := by omega
      have hPi := Lib.hid (HPP.out i)
      clear hb0
      generalize hA : decide (lo ≤ (i : Int)) = A at *
      generalize hB : decide ((i : Int) ≤ hi) = B at *
      cases A with
      | false =>
        go_wp2
        go_roundg (gk - 1)
        case measure => omega
        case rel => exact ⟨i + 1, _, by go_num, by omega, by omega, hb.set i _, Lib.hid (hU.out.step hlt _ hPi.out.symm), hbox.far (by simp) _, hres.far (by simp) _, hch.setCell (.inr (by simp)) _⟩
      | true =>
        go_wp2
        go_roundg (gk - 1)
        case measure => omega
        case rel => exact ⟨i + 1, _, by go_num, by omega, by omega, hb.set i _, Lib.hid (hU.out.step hlt _ hPi.out.symm), hbox.far (by simp) _, hres.far (by simp) _, hch.setCell (.inr (by simp)) _⟩
    · have hc1 : decide ((i : Int) < 256) = false := decide_eq_false (by omega)
      obtain rfl : i = 256 := by omega
      have hbx0 := hbox.c0
      have hbx2 := hbox.c2
      have r0 := hres.c0
      have r1 := hres.c1
      have r2 := hres.c2
      have f0 := hres.f 0
      have f1 := hres.f 1
      have f2 := hres.f 2
      go_wp2
      refine bodyPost_ret (v := .agg #[.string ⟨#[98, 121, 116, 101]⟩, .slice (some ⟨w.heap.size + 1, 0, none⟩) 256 256, .slice none 0 0]) (by simp [results, Tryd.results73, go_sem, r0, r1, r2]) rfl ⟨_, bs, rfl, by omega, ?_, (by have := hU.out.done; rw [show P = (fun c : Nat => decide (lo ≤ (c : Int)) && decide ((c : Int) ≤ hi)) from funext HPP.out] at this; exact this), ((hch.setCell (p := ⟨w.heap.size, 0, none⟩) (.inr (Nat.le_refl _)) _).setCell (p := ⟨w.heap.size, 1, none⟩) (.inr (Nat.le_refl _)) _).setCell (p := ⟨w.heap.size, 2, none⟩) (.inr (Nat.le_refl _)) _⟩
      exact blk_set_far (blk_set_far (blk_set_far hb (by simp) _) (by simp) _) (by simp) _
end Go.Proofs.YtmlmnckhiianhaaDoor
