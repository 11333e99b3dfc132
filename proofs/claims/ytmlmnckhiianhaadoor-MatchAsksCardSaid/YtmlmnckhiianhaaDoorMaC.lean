/- What is wrong with one label, walked. -/
import Derived.Test.YtmlmnckhiianhaaDoorMaB
import Derived.Lib.QuietBelow
namespace Go.Proofs.YtmlmnckhiianhaaDoor
open Go.RowKit Go.Sort
set_option linter.unusedVariables false
set_option linter.unusedSimpArgs false

theorem below_thn {a b c : World} (h : Below a.heap.size a b) (k : Below b.heap.size b c) : Below a.heap.size a c :=
  h.trans ⟨k.os, k.tape, k.output, k.size, fun i hi => k.block i (Nat.lt_of_lt_of_le hi h.size)⟩
set_option maxRecDepth 100000 in
theorem value_x (w : World) : Calls Tryd.prog 35 #[.string ⟨#[120]⟩] w fun e w' => e = .returned (.bool true) ∧ Below w.heap.size w w' := by
  go_enter Tryd.func35, Tryd.ntmps35
  go_wp2
  go_ret
  exact ⟨rfl, Below.refl _ _⟩

set_option maxRecDepth 100000 in
set_option maxHeartbeats 4000000 in
theorem check_one (s : ByteArray) (g : Nat) (v : Int) (hv : (if nameOK (bys s) = true then (0 : Int) else 26) = v) (w : World) (hb : w.heap[g]? = some (.cells #[.string s, .string ⟨#[120]⟩] 40 (0, 0))) :
    Calls Tryd.prog 22 #[.slice (some ⟨g, 0, none⟩) 1 1] w fun e w' => e = .returned (.int .i64 v) ∧ Below w.heap.size w w' := by
  have c0 : w.cell? ⟨g, 0, none⟩ = some (.string s) := (blk_cell hb).trans rfl
  have c1 : w.cell? ⟨g, 1, none⟩ = some (.string ⟨#[120]⟩) := (blk_cell hb).trans rfl
  have HB := Lib.hid hb
  clear hb
  go_enter Tryd.func22, Tryd.ntmps22
  go_wp2
  refine wp_loop_rounds 2 ?_
  rw [rounds_succ]
  go_wp2
  obtain ⟨W, hW⟩ : ∃ W, W = w.alloc (.cells #[.string s, .string ⟨#[120]⟩] 40) := ⟨_, rfl⟩
  have hbx : W.heap[w.heap.size]? = some (.cells #[.string s, .string ⟨#[120]⟩] 40 (0, 0)) := by subst hW; exact blk_new w _
  have kX0 : ∀ d os, (grow (redrawn W d) os).cell? ⟨w.heap.size, 0, none⟩ = some (.string s) := fun d os => cell_regrown ((blk_cell hbx).trans rfl) d os
  have kX1 : ∀ d os, (grow (redrawn W d) os).cell? ⟨w.heap.size, 1, none⟩ = some (.string ⟨#[120]⟩) := fun d os => cell_regrown ((blk_cell hbx).trans rfl) d os
  have cV : ∀ d os, Calls Tryd.prog 35 #[.string ⟨#[120]⟩] (grow (redrawn W d) os) fun e w'' => e = .returned (.bool true) ∧ ∃ p : Regrown, w'' = grow (redrawn W p.d) p.os := fun d os => Calls.regrown_of (value_x _)
  have hbW : Below w.heap.size w W := by subst hW; exact (Below.refl _ _).alloc (Nat.le_refl _) _
  have HBW := Lib.hid hbW
  rw [← hW]
  clear hbx hbW hW
  cases hnm : nameOK (bys s) with
    | false =>
      obtain rfl : v = 26 := by rw [← hv, hnm]; rfl
      clear hv
      have HNM := Lib.hid hnm
      clear hnm
      have cN : ∀ d os, Calls Tryd.prog 34 #[.string s] (grow (redrawn W d) os) fun e w'' => e = .returned (.bool false) ∧ ∃ p : Regrown, w'' = grow (redrawn W p.d) p.os := fun d os => by
        have := Calls.regrown_of (name_calls s (grow (redrawn W d) os))
        rw [HNM.out] at this; exact this
      refine wp_region_quiet_below (by kernel_rfl) (by kernel_rfl) ?_
      repeat (go_big_quiet_step (first | with_reducible exact cN _ _ | with_reducible exact cV _ _))
      refine wpQuiet_nil ?_
      intro _ hw'
      obtain ⟨⟨dq, osq⟩, hw''⟩ := hw'
      subst hw''
      go_wp2
      go_ret
      exact ⟨rfl, below_thn HBW.out (below_regrown W dq osq)⟩
    | true =>
      obtain rfl : v = 0 := by rw [← hv, hnm]; rfl
      clear hv
      have HNM := Lib.hid hnm
      clear hnm
      have cN : ∀ d os, Calls Tryd.prog 34 #[.string s] (grow (redrawn W d) os) fun e w'' => e = .returned (.bool true) ∧ ∃ p : Regrown, w'' = grow (redrawn W p.d) p.os := fun d os => by
        have := Calls.regrown_of (name_calls s (grow (redrawn W d) os))
        rw [HNM.out] at this; exact this
      refine wp_region_quiet_below (by kernel_rfl) (by kernel_rfl) ?_
      repeat (go_big_quiet_step (first | with_reducible exact cN _ _ | with_reducible exact cV _ _))
      refine wpQuiet_nil ?_
      intro _ hw'
      obtain ⟨⟨dq, osq⟩, hw''⟩ := hw'
      subst hw''
      go_wp2
      rw [rounds_succ]
      go_wp2
      go_ret
      exact ⟨rfl, below_thn HBW.out (below_regrown W dq osq)⟩
end Go.Proofs.YtmlmnckhiianhaaDoor
