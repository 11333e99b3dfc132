/- The document's pattern reader: its small functions, walked. -/
import Derived.Test.YtmlmnckhiianhaaDoorRxT
import Derived.Lib.QuietBelow
namespace Go.Proofs.YtmlmnckhiianhaaDoor
open Go.RowKit
set_option linter.unusedVariables false
set_option linter.unusedSimpArgs false

/-- The reader's state at block g. -/
def RS (w : World) (g : Nat) (s : ByteArray) (at_ deep bad : Int) : Prop := w.heap[g]? = some (.cells #[.string s, .int .i64 at_, .int .i64 deep, .int .i64 bad] 75 (0, 0))
theorem RS.c0 {w : World} {g : Nat} {s : ByteArray} {a d b : Int} (h : RS w g s a d b) : w.cell? ⟨g, 0, none⟩ = some (.string s) := (blk_cell h).trans rfl
theorem RS.c1 {w : World} {g : Nat} {s : ByteArray} {a d b : Int} (h : RS w g s a d b) : w.cell? ⟨g, 1, none⟩ = some (.int .i64 a) := (blk_cell h).trans rfl
theorem RS.c2 {w : World} {g : Nat} {s : ByteArray} {a d b : Int} (h : RS w g s a d b) : w.cell? ⟨g, 2, none⟩ = some (.int .i64 d) := (blk_cell h).trans rfl
theorem RS.c3 {w : World} {g : Nat} {s : ByteArray} {a d b : Int} (h : RS w g s a d b) : w.cell? ⟨g, 3, none⟩ = some (.int .i64 b) := (blk_cell h).trans rfl
theorem RS.f {w : World} {g : Nat} {s : ByteArray} {a d b : Int} (h : RS w g s a d b) (o : Nat) : w.frozen? ⟨g, o, none⟩ = false := blk_free h
theorem RS.set1 {w : World} {g : Nat} {s : ByteArray} {a d b : Int} (h : RS w g s a d b) (x : Int) : RS (w.setCell ⟨g, 1, none⟩ (.int .i64 x)) g s x d b := blk_set h _
theorem RS.set2 {w : World} {g : Nat} {s : ByteArray} {a d b : Int} (h : RS w g s a d b) (x : Int) : RS (w.setCell ⟨g, 2, none⟩ (.int .i64 x)) g s a x b := blk_set h _
theorem RS.set3 {w : World} {g : Nat} {s : ByteArray} {a d b : Int} (h : RS w g s a d b) (x : Int) : RS (w.setCell ⟨g, 3, none⟩ (.int .i64 x)) g s a d x := blk_set h _
theorem RS.alloc {w : World} {g : Nat} {s : ByteArray} {a d b : Int} (h : RS w g s a d b) (o : Obj) : RS (w.alloc o) g s a d b := blk_alloc h o
theorem RS.drewN {w : World} {g : Nat} {s : ByteArray} {a d b : Int} (h : RS w g s a d b) (n : Nat) : RS (w.drewN n) g s a d b := h
theorem RS.drew {w : World} {g : Nat} {s : ByteArray} {a d b : Int} (h : RS w g s a d b) : RS w.drew g s a d b := h
theorem RS.far {w : World} {g : Nat} {s : ByteArray} {a d b : Int} (h : RS w g s a d b) {p : Addr} (hne : g ≠ p.block) (v : Value) : RS (w.setCell p v) g s a d b := blk_set_far h hne v
theorem RS.lt {w : World} {g : Nat} {s : ByteArray} {a d b : Int} (h : RS w g s a d b) : g < w.heap.size := blk_lt h
theorem RS.chg {w w' : World} {g : Nat} {s : ByteArray} {a d b : Int} (h : RS w g s a d b) {M : Nat → Prop} (hc : Chg M w w') (hn : ¬ M g) : RS w' g s a d b := hc.blk h hn
theorem RS.cast {w : World} {g : Nat} {s : ByteArray} {a a' d b : Int} (h : RS w g s a d b) (e : a = a') : RS w g s a' d b := e ▸ h

/-- The next byte, or -1. -/
def nx (s : ByteArray) (i : Nat) : Int := match (bys s)[i]? with
  | some c => c
  | none => -1
theorem nx_some {s : ByteArray} {i c : Nat} (h : (bys s)[i]? = some c) : nx s i = c := by unfold nx; rw [h]
theorem nx_none {s : ByteArray} {i : Nat} (h : (bys s)[i]? = none) : nx s i = -1 := by unfold nx; rw [h]
theorem next_calls (g : Nat) (s : ByteArray) (i : Nat) (deep bad : Int) (w : World) (hs : s.size ≤ 64) (hp : RS w g s i deep bad) :
    Calls Tryd.prog 51 #[.pointer (some ⟨g, 0, none⟩)] w fun e w' => e = .returned (.int .i64 (nx s i)) ∧ ∃ n, w' = w.drewN n := by
  have h0 := hp.c0
  have h1 := hp.c1
  clear hp
  by_cases hlt : i < s.size
  · have hk : nx s i = (s[i].toNat : Int) := nx_some (bys_get s i hlt)
    have hge : decide (s.size ≤ i) = false := decide_eq_false (by omega)
    have hi1 : (0 : Int) ≤ (i : Int) := by omega
    have hi2 : (i : Int) < (s.size : Int) := by omega
    have HK := Lib.hid hk
    clear hk
    go_enter Tryd.func51, Tryd.ntmps51
    go_wp2
    go_quiet (fail)
    go_wp2
    go_quiet (fail)
    go_wp2
    go_ret
    refine ⟨?_, _, World.drewN_drewN _ _ _⟩
    rw [HK.out]
    exact congrArg (fun b => Ending.returned (.int .i64 b)) (IntWalk.wrap64_in (s[i].toNat : Int) (by have := UInt8.toNat_lt s[i]; omega))
  · have hk : nx s i = -1 := nx_none (bys_ge s i (by omega))
    rw [hk]
    have hge : decide (s.size ≤ i) = true := decide_eq_true (by omega)
    clear hk
    go_enter Tryd.func51, Tryd.ntmps51
    go_wp2
    go_quiet (fail)
    go_wp2
    go_ret
    exact ⟨rfl, _, rfl⟩

/-- wrong: what is wrong first. -/
theorem wrong_calls (g : Nat) (s : ByteArray) (i : Int) (deep c : Int) (w : World) (hp : RS w g s i deep 0) :
    Calls Tryd.prog 33 #[.pointer (some ⟨g, 0, none⟩), .int .i64 c] w fun e w' => e = .returned (.tuple #[]) ∧ RS w' g s i deep c ∧ Chg (· = g) w w' ∧ w'.heap.size = w.heap.size := by
  have h3 := hp.c3
  have f3 := hp.f 3
  go_enter Tryd.func33, Tryd.ntmps33
  go_wp2
  go_end0
  exact ⟨rfl, hp.set3 c, (Chg.refl (· = g) w).setCell (p := ⟨g, 3, none⟩) (.inl rfl) _, size_set _ _ _⟩

/-- item: a byte of a class. -/
def ItemRes (g : Nat) (s : ByteArray) (deep : Int) (w : World) (r : Except Nat (Nat × Nat)) (e : Ending) (w' : World) : Prop :=
  Chg (· = g) w w' ∧ w'.heap.size = w.heap.size ∧ match r with
  | .ok (c, j) => e = .returned (.int .i64 (c : Nat)) ∧ RS w' g s (j : Nat) deep 0 ∧ c < 256 ∧ j ≤ s.size
  | .error er => e = .returned (.int .i64 0) ∧ er = 27 ∧ ∃ a : Nat, RS w' g s (a : Nat) deep er ∧ a ≤ s.size

set_option maxHeartbeats 1000000 in
theorem item_calls (g : Nat) (s : ByteArray) (i : Nat) (deep : Int) (w : World) (hs : s.size ≤ 64) (hi : i ≤ s.size) (hp : RS w g s i deep 0) :
    Calls Tryd.prog 76 #[.pointer (some ⟨g, 0, none⟩)] w (ItemRes g s deep w (Rx.pOne (bys s) i)) := by
  by_cases hb : (bys s)[i]? = some 92
  · have hi2 : i < s.size := by
      rcases Nat.lt_or_ge i s.size with h | h
      · exact h
      · rw [bys_ge s i h] at hb; cases hb
    have hn := nx_some hb
    have h1 := hp.c1
    have f1 := hp.f 1
    by_cases hj : i + 1 < s.size
    · have hr : Rx.pOne (bys s) i = .ok (s[i + 1].toNat, i + 2) := by simp [Rx.pOne, hb, bys_get s (i + 1) hj]
      have hn2 := nx_some (bys_get s (i + 1) hj)
      rw [hr]
      clear hr hb
      have hc256 : s[i + 1].toNat < 256 := UInt8.toNat_lt _
      generalize s[i + 1].toNat = c at *
      have HN := Lib.hid hn
      have HN2 := Lib.hid hn2
      clear hn hn2
      have hge : decide ((c : Int) < 0) = false := decide_eq_false (by omega)
      go_enter Tryd.func76, Tryd.ntmps76
      go_wp2_with (first | (go_at_call 51; (fail_if_success (have := hp2)); ((refine (next_calls g s i deep 0 _ hs hp).mono ?_); rintro e w1 ⟨rfl, n, rfl⟩; rw [HN.out]; have hp2 := Lib.hid (((hp.drewN n).set1 ((i : Int) + 1)).cast (a' := ((i + 1 : Nat) : Int)) (by omega)))) | (go_at_call 51; ((refine (next_calls g s (i + 1) deep 0 _ hs (by exact hp2.out)).mono ?_); rintro e w1 ⟨rfl, n2, rfl⟩; rw [HN2.out])))
      go_ret
      refine ⟨(((((Chg.refl (· = g) w).drewN n).setCell (p := ⟨g, 1, none⟩) (.inl rfl) _).drewN n2).setCell (p := ⟨g, 1, none⟩) (.inl rfl) _), by simp [size_set], rfl, ((hp2.out.drewN n2).set1 _).cast (by omega), hc256, by omega⟩
    · have hr : Rx.pOne (bys s) i = .error 27 := by simp [Rx.pOne, hb, bys_ge s (i + 1) (by omega)]
      have hn2 := nx_none (bys_ge s (i + 1) (by omega))
      rw [hr]
      clear hr hb
      have HN := Lib.hid hn
      have HN2 := Lib.hid hn2
      clear hn hn2
      go_enter Tryd.func76, Tryd.ntmps76
      go_wp2_with (first | (go_at_call 51; (fail_if_success (have := hp2)); ((refine (next_calls g s i deep 0 _ hs hp).mono ?_); rintro e w1 ⟨rfl, n, rfl⟩; rw [HN.out]; have hp2 := Lib.hid (((hp.drewN n).set1 ((i : Int) + 1)).cast (a' := ((i + 1 : Nat) : Int)) (by omega)))) | (go_at_call 51; ((refine (next_calls g s (i + 1) deep 0 _ hs (by exact hp2.out)).mono ?_); rintro e w1 ⟨rfl, n2, rfl⟩; rw [HN2.out])) | (go_at_call 33; ((refine (wrong_calls g s ((i + 1 : Nat) : Int) deep 27 _ (by first | exact hp2.out.drewN _ | exact hp.drewN _)).mono ?_); rintro e w3 ⟨rfl, hp3, hc3, hz3⟩)))
      go_ret
      refine ⟨((((Chg.refl (· = g) w).drewN n).setCell (p := ⟨g, 1, none⟩) (.inl rfl) _).drewN n2).trans hc3, hz3.trans (by simp [size_set]), rfl, rfl, i + 1, hp3, by omega⟩
  · by_cases hj : i < s.size
    · have hr : Rx.pOne (bys s) i = .ok (s[i].toNat, i + 1) := by unfold Rx.pOne; rw [if_neg hb]; simp only [bys_get s i hj]
      have hn := nx_some (bys_get s i hj)
      rw [hr]
      have h1 := hp.c1
      have f1 := hp.f 1
      have hc256 : s[i].toNat < 256 := UInt8.toNat_lt _
      have hne : s[i].toNat ≠ 92 := fun e => hb (by rw [bys_get s i hj, e])
      clear hr hb
      generalize s[i].toNat = c at *
      have h92 : ((c : Int) == 92) = false := by simp; omega
      have HN := Lib.hid hn
      clear hn hne
      have hge : decide ((c : Int) < 0) = false := decide_eq_false (by omega)
      go_enter Tryd.func76, Tryd.ntmps76
      go_wp2_with (first | (go_at_call 51; (fail_if_success (have := hp2)); ((refine (next_calls g s i deep 0 _ hs hp).mono ?_); rintro e w1 ⟨rfl, n, rfl⟩; rw [HN.out]; have hp2 := Lib.hid (hp.drewN n))) | (go_at_call 51; ((refine (next_calls g s i deep 0 _ hs (by exact hp2.out)).mono ?_); rintro e w1 ⟨rfl, n2, rfl⟩; rw [HN.out])))
      go_ret
      refine ⟨(((Chg.refl (· = g) w).drewN (n + n2)).setCell (p := ⟨g, 1, none⟩) (.inl rfl) _), by simp [size_set], rfl, ((hp.drewN (n + n2)).set1 _).cast (by omega), hc256, by omega⟩
    · have hr : Rx.pOne (bys s) i = .error 27 := by unfold Rx.pOne; rw [if_neg hb]; simp only [bys_ge s i (show s.size ≤ i by omega)]
      have hn := nx_none (bys_ge s i (show s.size ≤ i by omega))
      rw [hr]
      clear hr hb
      have HN := Lib.hid hn
      clear hn
      go_enter Tryd.func76, Tryd.ntmps76
      go_wp2_with (first | (go_at_call 51; (fail_if_success (have := hp2)); ((refine (next_calls g s i deep 0 _ hs hp).mono ?_); rintro e w1 ⟨rfl, n, rfl⟩; rw [HN.out]; have hp2 := Lib.hid (hp.drewN n))) | (go_at_call 51; ((refine (next_calls g s i deep 0 _ hs (by exact hp2.out)).mono ?_); rintro e w1 ⟨rfl, n2, rfl⟩; rw [HN.out])) | (go_at_call 33; ((refine (wrong_calls g s ((i : Nat) : Int) deep 27 _ (by first | exact hp2.out.drewN _ | exact hp.drewN _)).mono ?_); rintro e w3 ⟨rfl, hp3, hc3, hz3⟩)))
      go_ret
      refine ⟨((Chg.refl (· = g) w).drewN (n + n2)).trans hc3, hz3.trans (by simp), rfl, rfl, i, hp3, by omega⟩
end Go.Proofs.YtmlmnckhiianhaaDoor
