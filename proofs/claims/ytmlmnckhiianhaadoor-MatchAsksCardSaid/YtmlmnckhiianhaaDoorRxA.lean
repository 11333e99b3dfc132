/- The pattern reader's small functions, walked: what each of them does to the reader's state, or to a set of bytes. -/
import Derived.Test.YtmlmnckhiianhaaDoorProg
import Derived.Test.YtmlmnckhiianhaaDoorMem
import Derived.Test.YtmlmnckhiianhaaDoorRx
import Derived.Deep.QuietTactic
import Derived.BigQuiet
import Derived.WalkLawsBesides
import Derived.WalkSpells
import Derived.RegionTactic
import Derived.BigRegion
import Derived.Laws.BitsLemmas
import Derived.Deep.LoopGhost
import Derived.Lib.Hide
import Derived.Deep.MidRow
namespace Go.Proofs.YtmlmnckhiianhaaDoor
open Go.RowKit

/-- Four words are a set of bytes. -/
def SetV (q : Nat → Int) (p : Nat → Bool) : Prop := ∀ i, i < 4 → 0 ≤ q i ∧ q i < 18446744073709551616 ∧ ∀ x, x < 64 → (q i).toNat.testBit x = p (64 * i + x)
/-- The reader's state at block g. -/
def PS (w : World) (g : Nat) (s : ByteArray) (at_ deep bad : Int) : Prop := w.heap[g]? = some (.cells #[.string s, .int .i64 at_, .int .i64 deep, .int .i64 bad] 80 (0, 0))
/-- A part at block g, field by field. -/
def NB (w : World) (g : Nat) (kind : Int) (q : Nat → Int) (kids : Value) : Prop := w.heap[g]? = some (.cells #[.int .i64 kind, .int .u64 (q 0), .int .u64 (q 1), .int .u64 (q 2), .int .u64 (q 3), kids] 108 (0, 0))

theorem PS.c0 {w : World} {g : Nat} {s : ByteArray} {a d b : Int} (h : PS w g s a d b) : w.cell? ⟨g, 0, none⟩ = some (.string s) := (blk_cell h).trans rfl
theorem PS.c1 {w : World} {g : Nat} {s : ByteArray} {a d b : Int} (h : PS w g s a d b) : w.cell? ⟨g, 1, none⟩ = some (.int .i64 a) := (blk_cell h).trans rfl
theorem PS.c2 {w : World} {g : Nat} {s : ByteArray} {a d b : Int} (h : PS w g s a d b) : w.cell? ⟨g, 2, none⟩ = some (.int .i64 d) := (blk_cell h).trans rfl
theorem PS.c3 {w : World} {g : Nat} {s : ByteArray} {a d b : Int} (h : PS w g s a d b) : w.cell? ⟨g, 3, none⟩ = some (.int .i64 b) := (blk_cell h).trans rfl
theorem PS.f {w : World} {g : Nat} {s : ByteArray} {a d b : Int} (h : PS w g s a d b) (o : Nat) : w.frozen? ⟨g, o, none⟩ = false := blk_free h
theorem PS.set1 {w : World} {g : Nat} {s : ByteArray} {a d b : Int} (h : PS w g s a d b) (x : Int) : PS (w.setCell ⟨g, 1, none⟩ (.int .i64 x)) g s x d b := blk_set h _
theorem PS.set2 {w : World} {g : Nat} {s : ByteArray} {a d b : Int} (h : PS w g s a d b) (x : Int) : PS (w.setCell ⟨g, 2, none⟩ (.int .i64 x)) g s a x b := blk_set h _
theorem PS.set3 {w : World} {g : Nat} {s : ByteArray} {a d b : Int} (h : PS w g s a d b) (x : Int) : PS (w.setCell ⟨g, 3, none⟩ (.int .i64 x)) g s a d x := blk_set h _
theorem PS.alloc {w : World} {g : Nat} {s : ByteArray} {a d b : Int} (h : PS w g s a d b) (o : Obj) : PS (w.alloc o) g s a d b := blk_alloc h o
theorem PS.drewN {w : World} {g : Nat} {s : ByteArray} {a d b : Int} (h : PS w g s a d b) (n : Nat) : PS (w.drewN n) g s a d b := h
theorem PS.drew {w : World} {g : Nat} {s : ByteArray} {a d b : Int} (h : PS w g s a d b) : PS w.drew g s a d b := h
theorem PS.far {w : World} {g : Nat} {s : ByteArray} {a d b : Int} (h : PS w g s a d b) {p : Addr} (hne : g ≠ p.block) (v : Value) : PS (w.setCell p v) g s a d b := blk_set_far h hne v
theorem PS.lt {w : World} {g : Nat} {s : ByteArray} {a d b : Int} (h : PS w g s a d b) : g < w.heap.size := blk_lt h
theorem PS.chg {w w' : World} {g : Nat} {s : ByteArray} {a d b : Int} (h : PS w g s a d b) {M : Nat → Prop} (hc : Chg M w w') (hn : ¬ M g) : PS w' g s a d b := hc.blk h hn

theorem NB.c (o : Nat) {w : World} {g : Nat} {k : Int} {q : Nat → Int} {v : Value} (h : NB w g k q v) : w.cell? ⟨g, o, none⟩ = #[Value.int .i64 k, .int .u64 (q 0), .int .u64 (q 1), .int .u64 (q 2), .int .u64 (q 3), v][o]? := blk_cell h
theorem NB.f {w : World} {g : Nat} {k : Int} {q : Nat → Int} {v : Value} (h : NB w g k q v) (o : Nat) : w.frozen? ⟨g, o, none⟩ = false := blk_free h
theorem NB.word {w : World} {g : Nat} {k : Int} {q : Nat → Int} {v : Value} (h : NB w g k q v) (i : Nat) (hi : i < 4) : w.cell? ⟨g, 1 + i, none⟩ = some (.int .u64 (q i)) := by
  rw [h.c]
  match i, hi with
  | 0, _ => rfl
  | 1, _ => rfl
  | 2, _ => rfl
  | 3, _ => rfl
theorem NB.setWord {w : World} {g : Nat} {k : Int} {q : Nat → Int} {v : Value} (h : NB w g k q v) (i : Nat) (hi : i < 4) (x : Int) :
    NB (w.setCell ⟨g, 1 + i, none⟩ (.int .u64 x)) g k (fun j => if j = i then x else q j) v := by
  have := blk_set (o := 1 + i) h (.int .u64 x)
  match i, hi with
  | 0, _ => exact this
  | 1, _ => exact this
  | 2, _ => exact this
  | 3, _ => exact this
theorem NB.kids {w : World} {g : Nat} {k : Int} {q : Nat → Int} {v : Value} (h : NB w g k q v) (x : Value) : NB (w.setCell ⟨g, 5, none⟩ x) g k q x := blk_set h _
theorem NB.lt {w : World} {g : Nat} {k : Int} {q : Nat → Int} {v : Value} (h : NB w g k q v) : g < w.heap.size := blk_lt h
theorem NB.chg {w w' : World} {g : Nat} {k : Int} {q : Nat → Int} {v : Value} (h : NB w g k q v) {M : Nat → Prop} (hc : Chg M w w') (hn : ¬ M g) : NB w' g k q v := hc.blk h hn
theorem NB.alloc {w : World} {g : Nat} {k : Int} {q : Nat → Int} {v : Value} (h : NB w g k q v) (o : Obj) : NB (w.alloc o) g k q v := blk_alloc h o
theorem NB.drew {w : World} {g : Nat} {k : Int} {q : Nat → Int} {v : Value} (h : NB w g k q v) : NB w.drew g k q v := h
theorem NB.drewN {w : World} {g : Nat} {k : Int} {q : Nat → Int} {v : Value} (h : NB w g k q v) (n : Nat) : NB (w.drewN n) g k q v := h
theorem NB.far {w : World} {g : Nat} {k : Int} {q : Nat → Int} {v : Value} (h : NB w g k q v) {p : Addr} (hne : g ≠ p.block) (u : Value) : NB (w.setCell p u) g k q v := blk_set_far h hne u

theorem NB.w1 {w : World} {g : Nat} {k : Int} {q : Nat → Int} {v : Value} (h : NB w g k q v) : w.cell? ⟨g, 1, none⟩ = some (.int .u64 (q 0)) := h.word 0 (by decide)
theorem NB.w2 {w : World} {g : Nat} {k : Int} {q : Nat → Int} {v : Value} (h : NB w g k q v) : w.cell? ⟨g, 2, none⟩ = some (.int .u64 (q 1)) := h.word 1 (by decide)
theorem NB.w3 {w : World} {g : Nat} {k : Int} {q : Nat → Int} {v : Value} (h : NB w g k q v) : w.cell? ⟨g, 3, none⟩ = some (.int .u64 (q 2)) := h.word 2 (by decide)
theorem NB.w4 {w : World} {g : Nat} {k : Int} {q : Nat → Int} {v : Value} (h : NB w g k q v) : w.cell? ⟨g, 4, none⟩ = some (.int .u64 (q 3)) := h.word 3 (by decide)
theorem NB.w0 {w : World} {g : Nat} {k : Int} {q : Nat → Int} {v : Value} (h : NB w g k q v) : w.cell? ⟨g, 0, none⟩ = some (.int .i64 k) := h.c 0
theorem NB.w5 {w : World} {g : Nat} {k : Int} {q : Nat → Int} {v : Value} (h : NB w g k q v) : w.cell? ⟨g, 5, none⟩ = some v := h.c 5
theorem NB.new0 (w : World) (k : Int) : NB (w.alloc (.cells #[.int .i64 k, .int .u64 0, .int .u64 0, .int .u64 0, .int .u64 0, .slice none 0 0] 108)) w.heap.size k (fun _ => 0) (.slice none 0 0) := blk_new w _
theorem NB.range {w : World} {g : Nat} {k : Int} {q : Nat → Int} {v : Value} (h : NB w g k q v) : w.rangeAt g 1 [.int .u64 (q 0), .int .u64 (q 1), .int .u64 (q 2), .int .u64 (q 3)] := by
  intro j u hj
  rw [h.c]
  match j, hj with
  | 0, hj => exact hj
  | 1, hj => exact hj
  | 2, hj => exact hj
  | 3, hj => exact hj
theorem NB.there {w : World} {g : Nat} {k : Int} {q : Nat → Int} {v : Value} (h : NB w g k q v) : w.there g 1 4 := fun j hj => by
  refine ⟨?_, h.f _⟩
  rw [h.word j hj]; rfl
theorem NB.setAll {w : World} {g : Nat} {k : Int} {q : Nat → Int} {v : Value} (h : NB w g k q v) (q' : Nat → Int) :
    NB (w.setCells g 1 [.int .u64 (q' 0), .int .u64 (q' 1), .int .u64 (q' 2), .int .u64 (q' 3)]) g k q' v :=
  (((h.setWord 0 (by decide) (q' 0)).setWord 1 (by decide) (q' 1)).setWord 2 (by decide) (q' 2)).setWord 3 (by decide) (q' 3)

/-! ### sets -/
theorem wraps_u64 (n : Int) (h₀ : 0 ≤ n) (h₁ : n < 2 ^ 64) : IntKind.u64.wrap n = n := by
  simp [IntKind.wrap, IntKind.bits, IntKind.signed]; omega
theorem bit_or (a : Int) (c : Int) (h0 : 0 ≤ a) (h1 : a < 18446744073709551616) (c0 : 0 ≤ c) (c1 : c < 64) :
    ∃ r : Int, bits .or .u64 a (IntKind.u64.wrap (2 ^ min c.toNat 64)) = r ∧ 0 ≤ r ∧ r < 18446744073709551616 ∧ ∀ x, r.toNat.testBit x = (a.toNat.testBit x || decide (c.toNat = x)) := by
  obtain ⟨n, rfl⟩ := Int.eq_ofNat_of_zero_le h0
  obtain ⟨m, rfl⟩ := Int.eq_ofNat_of_zero_le c0
  have hm : m < 64 := by omega
  have hp : (2 : Nat) ^ m < 2 ^ 64 := Nat.pow_lt_pow_right (by decide) hm
  have hn : n < 2 ^ 64 := by omega
  have e : IntKind.u64.wrap (2 ^ min (m : Int).toNat 64) = ((2 ^ m : Nat) : Int) := by
    have : min (m : Int).toNat 64 = m := by simp; omega
    rw [this, wraps_u64 _ (Int.pow_nonneg (by decide)) (by exact_mod_cast hp)]
    simp
  rw [e, (bits_nat .u64 64 (by decide) wraps_u64 n (2 ^ m) hn hp).2]
  refine ⟨_, rfl, by omega, ?_, fun x => ?_⟩
  · have := Nat.or_lt_two_pow hn hp; omega
  · simp [Nat.testBit_or, Nat.testBit_two_pow]
theorem bit_has (a : Int) (c : Int) (h0 : 0 ≤ a) (h1 : a < 18446744073709551616) (c0 : 0 ≤ c) (c1 : c < 64) :
    (bits .and .u64 (a / 2 ^ min c.toNat 64) 1 == 1) = a.toNat.testBit c.toNat := by
  obtain ⟨n, rfl⟩ := Int.eq_ofNat_of_zero_le h0
  obtain ⟨m, rfl⟩ := Int.eq_ofNat_of_zero_le c0
  have hn : n < 2 ^ 64 := by omega
  have e : ((n : Int) / 2 ^ min (m : Int).toNat 64) = ((n / 2 ^ m : Nat) : Int) := by
    have : min (m : Int).toNat 64 = m := by simp; omega
    rw [this]; simp
  have hq : n / 2 ^ m < 2 ^ 64 := Nat.lt_of_le_of_lt (Nat.div_le_self _ _) hn
  rw [e, show (1 : Int) = ((1 : Nat) : Int) from rfl, (bits_nat .u64 64 (by decide) wraps_u64 (n / 2 ^ m) 1 hq (by decide)).1]
  simp only [Nat.and_one_is_mod, Int.toNat_natCast, Nat.testBit_eq_decide_div_mod_eq]
  rw [Bool.eq_iff_iff]
  simp only [beq_iff_eq, decide_eq_true_eq]
  omega
theorem bit_not (a : Int) (h0 : 0 ≤ a) (h1 : a < 18446744073709551616) :
    ∃ r : Int, bits .xor .u64 IntKind.u64.max a = r ∧ 0 ≤ r ∧ r < 18446744073709551616 ∧ ∀ x, x < 64 → r.toNat.testBit x = !(a.toNat.testBit x) := by
  obtain ⟨n, rfl⟩ := Int.eq_ofNat_of_zero_le h0
  have hn : n < 2 ^ 64 := by omega
  have e : IntKind.u64.max = ((2 ^ 64 - 1 : Nat) : Int) := by decide
  have hx : (2 ^ 64 - 1 : Nat) ^^^ n < 2 ^ 64 := Nat.xor_lt_two_pow (by decide) hn
  have hb : bits .xor .u64 IntKind.u64.max (n : Int) = (((2 ^ 64 - 1 : Nat) ^^^ n : Nat) : Int) := by
    rw [e]
    simp only [bits, BitVec.ofInt_natCast, BitVec.toNat_xor, BitVec.toNat_ofNat]
    rw [Nat.mod_eq_of_lt (show (2 ^ 64 - 1 : Nat) < 2 ^ IntKind.u64.bits by decide), Nat.mod_eq_of_lt (show n < 2 ^ IntKind.u64.bits from hn)]
    exact wraps_u64 _ (by omega) (by exact_mod_cast hx)
  refine ⟨_, hb, by omega, by omega, fun x hx => ?_⟩
  simp only [Int.toNat_natCast, Nat.testBit_xor, Nat.testBit_two_pow_sub_one]
  simp [hx]

theorem SetV.put {q : Nat → Int} {p : Nat → Bool} (h : SetV q p) (c : Int) (c0 : 0 ≤ c) (c1 : c < 256) (r : Int) (i : Nat) (hi : i < 4) (hc : c / 64 = i)
    (r0 : 0 ≤ r) (r1 : r < 18446744073709551616) (hr : ∀ x, r.toNat.testBit x = ((q i).toNat.testBit x || decide ((c % 64).toNat = x))) :
    SetV (fun j => if j = i then r else q j) (fun x => p x || x == c.toNat) := by
  intro j hj
  obtain ⟨a, b, d⟩ := h j hj
  by_cases e : j = i
  · subst e
    refine ⟨by simpa using r0, by simpa using r1, fun x hx => ?_⟩
    simp only [if_true]
    rw [hr x, d x hx]
    congr 1
    rw [Bool.eq_iff_iff]
    simp only [decide_eq_true_eq, beq_iff_eq]
    omega
  · refine ⟨by simpa [e] using a, by simpa [e] using b, fun x hx => ?_⟩
    simp only [if_neg e]
    rw [d x hx]
    have : (64 * j + x == c.toNat) = false := by simp; omega
    simp [this]
theorem SetV.has {q : Nat → Int} {p : Nat → Bool} (h : SetV q p) (c : Int) (c0 : 0 ≤ c) (c1 : c < 256) (i : Nat) (hi : i < 4) (hc : c / 64 = i) :
    (q i).toNat.testBit (c % 64).toNat = p c.toNat := by
  obtain ⟨a, b, d⟩ := h i hi
  rw [d _ (by omega)]
  congr 1
  omega
theorem SetV.zero : SetV (fun _ => 0) (fun _ => false) := fun _ _ => ⟨Int.le_refl 0, by show (0 : Int) < _; decide, fun x _ => by simp⟩
theorem SetV.congr {q : Nat → Int} {p p' : Nat → Bool} (h : SetV q p) (e : ∀ x, x < 256 → p x = p' x) : SetV q p' := fun i hi => by
  obtain ⟨a, b, d⟩ := h i hi
  exact ⟨a, b, fun x hx => (d x hx).trans (e _ (by omega))⟩

/-- put: a byte comes into the set of a part. -/
theorem put_calls (g : Nat) (k : Int) (q : Nat → Int) (kids : Value) (p : Nat → Bool) (c : Int) (w : World) (c0 : 0 ≤ c) (c1 : c < 256) (hn : NB w g k q kids) (hq : SetV q p) :
    Calls Tryd.prog 79 #[.pointer (some ⟨g, 1, none⟩), .int .u8 c] w fun e w' =>
      e = .returned (.tuple #[]) ∧ ∃ q', NB w' g k q' kids ∧ SetV q' (fun x => p x || x == c.toNat) ∧ Chg (· = g) w w' ∧ w'.heap.size = w.heap.size := by
  have e6 : bits .and .u8 c 63 = c % 64 := u8_and63 _ c0 c1
  have e7 : 0 ≤ c % 64 := by omega
  obtain ⟨i, hi⟩ := Int.eq_ofNat_of_zero_le (show 0 ≤ c / 64 by omega)
  have i4 : i < 4 := by omega
  obtain ⟨x0, x1, _⟩ := hq i i4
  obtain ⟨r, hr, r0, r1, hbit⟩ := bit_or (q i) (c % 64) x0 x1 (by omega) (by omega)
  have HQ := hq.put c c0 c1 r i i4 hi r0 r1 hbit
  have HN := hn.setWord i i4 r
  have HC : Chg (· = g) w (w.setCell ⟨g, 1 + i, none⟩ (.int .u64 r)) := (Chg.refl (· = g) w).setCell (p := ⟨g, 1 + i, none⟩) (.inl rfl) _
  have hw := hn.word i i4
  have hf := hn.f (1 + i)
  have HH : Hid (SetV (fun j => if j = i then r else q j) (fun x => p x || x == c.toNat) ∧ NB (w.setCell ⟨g, 1 + i, none⟩ (.int .u64 r)) g k (fun j => if j = i then r else q j) kids ∧ Chg (· = g) w (w.setCell ⟨g, 1 + i, none⟩ (.int .u64 r))) := Lib.hid ⟨HQ, HN, HC⟩
  clear HQ HN HC hq hn hbit x0 x1
  generalize c % 64 = s at *
  go_enter Tryd.func79, Tryd.ntmps79
  go_wp2
  go_region
  go_end0
  obtain ⟨HQ, HN, HC⟩ := HH.out
  exact ⟨rfl, _, HN.drew, HQ, HC.drew, size_set _ _ _⟩

/-- has: is a byte in a set? -/
theorem has_calls (q : Nat → Int) (p : Nat → Bool) (c : Int) (w : World) (c0 : 0 ≤ c) (c1 : c < 256) (hq : SetV q p) :
    Calls Tryd.prog 55 #[.agg #[.int .u64 (q 0), .int .u64 (q 1), .int .u64 (q 2), .int .u64 (q 3)], .int .u8 c] w fun e w' =>
      e = .returned (.bool (p c.toNat)) ∧ Below w.heap.size w w' := by
  have e6 : bits .and .u8 c 63 = c % 64 := u8_and63 _ c0 c1
  have e7 : 0 ≤ c % 64 := by omega
  obtain ⟨i, hi⟩ := Int.eq_ofNat_of_zero_le (show 0 ≤ c / 64 by omega)
  have i4 : i < 4 := by omega
  obtain ⟨x0, x1, _⟩ := hq i i4
  have hb := bit_has (q i) (c % 64) x0 x1 (by omega) (by omega)
  rw [hq.has c c0 c1 i i4 hi] at hb
  generalize p c.toNat = r at *
  have HB := Lib.hid hb
  clear hb hq x0 x1 c0 c1
  generalize c % 64 = s at *
  match i, i4 with
  | 0, _ | 1, _ | 2, _ | 3, _ =>
    go_enter Tryd.func55, Tryd.ntmps55
    go_wp2
    go_ret
    exact ⟨congrArg (fun b => Ending.returned (.bool b)) HB.out, (Below.refl _ _).alloc (Nat.le_refl _) _⟩
end Go.Proofs.YtmlmnckhiianhaaDoor
