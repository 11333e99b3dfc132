/- Plain facts on the machine's memory that all walks of this work use: what may change ('Chg'), and how a block reads behind stores and allocations. No program in sight. -/
import Derived.WalkKit
import Derived.KernelRfl
import Derived.Deep.Draws
import Derived.Deep.OwnRows
import Derived.Deep.AppendLies
namespace Go.Proofs.YtmlmnckhiianhaaDoor
open Go.RowKit

/-- From w to w' nothing that was there has changed but blocks of M; the streams are as they were. -/
structure Chg (M : Nat → Prop) (w w' : World) : Prop where
  os : w'.os = w.os
  tape : w'.tape = w.tape
  output : w'.output = w.output
  size : w.heap.size ≤ w'.heap.size
  block : ∀ k, k < w.heap.size → ¬ M k → w'.heap[k]? = w.heap[k]?

theorem Chg.refl (M : Nat → Prop) (w : World) : Chg M w w := ⟨rfl, rfl, rfl, Nat.le_refl _, fun _ _ _ => rfl⟩
theorem Chg.trans {M : Nat → Prop} {a b c : World} (h : Chg M a b) (k : Chg M b c) : Chg M a c :=
  ⟨k.os.trans h.os, k.tape.trans h.tape, k.output.trans h.output, Nat.le_trans h.size k.size,
    fun i hi hm => (k.block i (Nat.lt_of_lt_of_le hi h.size) hm).trans (h.block i hi hm)⟩
theorem Chg.mono {M M' : Nat → Prop} {a b : World} (h : Chg M a b) (hm : ∀ k, k < a.heap.size → M k → M' k) : Chg M' a b :=
  ⟨h.os, h.tape, h.output, h.size, fun k hk hn => h.block k hk fun hM => hn (hm k hk hM)⟩
/-- A later piece may also change what is new since the beginning. -/
theorem Chg.trans' {M M' : Nat → Prop} {a b c : World} (h : Chg M a b) (k : Chg M' b c) (hm : ∀ i, i < a.heap.size → M' i → M i) : Chg M a c :=
  ⟨k.os.trans h.os, k.tape.trans h.tape, k.output.trans h.output, Nat.le_trans h.size k.size,
    fun i hi hn => (k.block i (Nat.lt_of_lt_of_le hi h.size) fun hM => hn (hm i hi hM)).trans (h.block i hi hn)⟩
theorem Chg.drew {M : Nat → Prop} {a w : World} (h : Chg M a w) : Chg M a w.drew := ⟨h.os, h.tape, h.output, h.size, h.block⟩
theorem Chg.drewN {M : Nat → Prop} {a w : World} (h : Chg M a w) (n : Nat) : Chg M a (w.drewN n) := ⟨h.os, h.tape, h.output, h.size, h.block⟩
theorem Chg.alloc {M : Nat → Prop} {a w : World} (h : Chg M a w) (o : Obj) : Chg M a (w.alloc o) :=
  ⟨h.os, h.tape, h.output, by simp; have := h.size; omega, fun k hk hn => (Below.heap_alloc w o k (Nat.lt_of_lt_of_le hk h.size)).trans (h.block k hk hn)⟩
theorem Chg.setCell {M : Nat → Prop} {a w : World} (h : Chg M a w) {p : Addr} (hp : M p.block ∨ a.heap.size ≤ p.block) (u : Value) : Chg M a (w.setCell p u) :=
  ⟨h.os, h.tape, h.output, by simpa [World.setCell] using h.size, fun k hk hn => (Below.heap_setCell w p u k (by rintro rfl; rcases hp with hp | hp; exact hn hp; omega)).trans (h.block k hk hn)⟩
theorem Chg.grown {M : Nat → Prop} {a w w' : World} {row : Option Nat} (h : Chg M a w) (hg : w.grownBy w' row) (hr : ∀ k, row = some k → M k ∨ a.heap.size ≤ k) : Chg M a w' :=
  ⟨hg.os.trans h.os, hg.tape.trans h.tape, hg.output.trans h.output, Nat.le_trans h.size hg.size,
    fun k hk hn => (hg.block k (Nat.lt_of_lt_of_le hk h.size) (fun e => by rcases hr k e.symm with q | q; exact hn q; omega)).trans (h.block k hk hn)⟩
theorem Chg.below {M : Nat → Prop} {a w : World} (h : Chg M a w) (hm : ∀ k, k < a.heap.size → ¬ M k) : Below a.heap.size a w :=
  ⟨h.os, h.tape, h.output, h.size, fun k hk => h.block k hk (hm k hk)⟩
theorem Chg.of_below {M : Nat → Prop} {a w : World} (h : Below a.heap.size a w) : Chg M a w := ⟨h.os, h.tape, h.output, h.size, fun k hk _ => h.block k hk⟩
theorem Chg.cell {M : Nat → Prop} {a w : World} (h : Chg M a w) {p : Addr} {v : Value} (hc : a.cell? p = some v) (hn : ¬ M p.block) : w.cell? p = some v :=
  (World.cell?_of_block (w := a) (h.block p.block (World.block_lt_of_cell? a p hc) hn)).trans hc
theorem Chg.blk {M : Nat → Prop} {a w : World} (h : Chg M a w) {g : Nat} {o : Obj} (hc : a.heap[g]? = some o) (hn : ¬ M g) : w.heap[g]? = some o :=
  (h.block g (by have := (Array.getElem?_eq_some_iff.1 hc).1; exact this) hn).trans hc

theorem blk_lt {w : World} {g : Nat} {o : Obj} (h : w.heap[g]? = some o) : g < w.heap.size := (Array.getElem?_eq_some_iff.1 h).1
theorem blk_cell {w : World} {g T o : Nat} {cs : Array Value} {fr : Nat × Nat} (h : w.heap[g]? = some (.cells cs T fr)) : w.cell? ⟨g, o, none⟩ = cs[o]? := cell_of_row w g o cs T fr h
theorem blk_free {w : World} {g T o : Nat} {cs : Array Value} (h : w.heap[g]? = some (.cells cs T (0, 0))) : w.frozen? ⟨g, o, none⟩ = false := frozen_of_row w g o cs T h
theorem blk_set {w : World} {g o T : Nat} {cs : Array Value} {fr : Nat × Nat} (h : w.heap[g]? = some (.cells cs T fr)) (v : Value) :
    (w.setCell ⟨g, o, none⟩ v).heap[g]? = some (.cells (cs.setIfInBounds o v) T fr) := by
  simp [World.setCell, Array.getElem?_modify, h]
theorem blk_set_far {w : World} {g : Nat} {ob : Obj} {p : Addr} (h : w.heap[g]? = some ob) (hne : g ≠ p.block) (v : Value) : (w.setCell p v).heap[g]? = some ob :=
  (Below.heap_setCell w p v g hne).trans h
theorem blk_alloc {w : World} {g : Nat} {ob : Obj} (h : w.heap[g]? = some ob) (o : Obj) : (w.alloc o).heap[g]? = some ob :=
  (Below.heap_alloc w o g (blk_lt h)).trans h
theorem blk_new (w : World) (o : Obj) : (w.alloc o).heap[w.heap.size]? = some o := heap_alloc_new w o
theorem blk_drewN {w : World} {g : Nat} {ob : Obj} (h : w.heap[g]? = some ob) (n : Nat) : (w.drewN n).heap[g]? = some ob := h
theorem blk_grown {w w' : World} {row : Option Nat} {g : Nat} {ob : Obj} (h : w.heap[g]? = some ob) (hg : w.grownBy w' row) (hne : some g ≠ row) : w'.heap[g]? = some ob :=
  (hg.block g (blk_lt h) hne).trans h
@[simp] theorem size_drewN (w : World) (n : Nat) : (w.drewN n).heap.size = w.heap.size := rfl
theorem size_set (w : World) (p : Addr) (v : Value) : (w.setCell p v).heap.size = w.heap.size := by simp [World.setCell]

/-- The bytes of a text, as numbers. -/
def bys (s : ByteArray) : List Nat := s.data.toList.map UInt8.toNat
theorem bys_len (s : ByteArray) : (bys s).length = s.size := by simp [bys]
theorem bys_get (s : ByteArray) (i : Nat) (h : i < s.size) : (bys s)[i]? = some (s[i]).toNat := by
  unfold bys
  rw [List.getElem?_map]
  have : s.data.toList[i]? = some s[i] := by
    rw [List.getElem?_eq_getElem (by simpa using h)]; rfl
  rw [this]; rfl
theorem bys_ge (s : ByteArray) (i : Nat) (h : s.size ≤ i) : (bys s)[i]? = none := by
  rw [List.getElem?_eq_none_iff, bys_len]; exact h
theorem bys_lt (s : ByteArray) (b : Nat) (h : b ∈ bys s) : b < 256 := by
  unfold bys at h
  obtain ⟨c, _, rfl⟩ := List.mem_map.1 h
  exact UInt8.toNat_lt c

end Go.Proofs.YtmlmnckhiianhaaDoor
