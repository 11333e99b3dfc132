/- strings.IndexAny of "=!" at a text of at most 8 bytes, whatever bytes these are: walked. -/
import Derived.Test.YtmlmnckhiianhaaDoorMem
import Derived.Test.YtmlmnckhiianhaaDoorShelf
import Derived.Laws.RangeAny
import Derived.Laws.Runes
import Derived.Lib.DecodeN
import Derived.Lib.Hide
import Derived.Lib.QuietBelow
import Derived.WalkMore
import Derived.BigQuiet
namespace Go.Proofs.YtmlmnckhiianhaaDoor
open Go.RowKit Go.Shelf
set_option linter.unusedVariables false
set_option linter.unusedSimpArgs false

theorem block_lt {w : World} {k : Nat} {o : Obj} (h : w.heap[k]? = some o) : k < w.heap.size := by
  rcases Nat.lt_or_ge k w.heap.size with h1 | h1
  · exact h1
  · rw [Array.getElem?_eq_none h1] at h; cases h
/-- The model's iterator over a text, at another place. -/
def setIter (w : World) (k : Nat) (s : ByteArray) (p : Nat) : World := { w with heap := w.heap.setIfInBounds k (.stringIter s p) }
theorem setIter_at {w : World} {k : Nat} {o : Obj} (h : w.heap[k]? = some o) (s : ByteArray) (p : Nat) : (setIter w k s p).heap[k]? = some (.stringIter s p) := by
  have hk : k < w.heap.size := by
    rcases Nat.lt_or_ge k w.heap.size with h1 | h1
    · exact h1
    · rw [Array.getElem?_eq_none h1] at h; cases h
  unfold setIter
  simp [hk]
theorem setIter_below {B k : Nat} {a w : World} (h : Below B a w) (hk : B ≤ k) (s : ByteArray) (p : Nat) : Below B a (setIter w k s p) :=
  h.trans ⟨rfl, rfl, rfl, by unfold setIter; simp, fun j hj => by
    unfold setIter
    have : k ≠ j := by omega
    simp [Array.getElem?_setIfInBounds, this]⟩
theorem next_blk {P : Program} (w : World) (k : Nat) (s : ByteArray) (pos : Nat) (ty : TypeId) (hk : w.heap[k]? = some (.stringIter s pos)) (h : pos < s.size) :
    (Instr.next (.pointer (some ⟨k, 0, none⟩)) true ty).run P w =
      .ok (.tuple #[.bool true, .int .i64 pos, .int .i32 (Utf8.decode s pos).1]) (setIter w k s (pos + (Utf8.decode s pos).2)) := by
  simp only [Instr.next, getObj, setObj, Sem.run_bind, Sem.run, hk, Result.andThen, h, if_true]
  simp [goInt, setIter]
theorem next_blk_end {P : Program} (w : World) (k : Nat) (s : ByteArray) (pos : Nat) (ty : TypeId) (hk : w.heap[k]? = some (.stringIter s pos)) (h : ¬ pos < s.size) :
    (Instr.next (.pointer (some ⟨k, 0, none⟩)) true ty).run P w = .ok (.tuple #[.bool false]) w := by
  simp [Instr.next, getObj, Sem.run, hk, h]

theorem decodeN_cont (n b0 b1 b2 b3 : Nat) (hn : 1 ≤ n) : (Lib.decodeN n b0 b1 b2 b3).2 ≤ n ∧ 1 ≤ (Lib.decodeN n b0 b1 b2 b3).2 ∧ (1 < (Lib.decodeN n b0 b1 b2 b3).2 → 128 ≤ b1) ∧ (2 < (Lib.decodeN n b0 b1 b2 b3).2 → 128 ≤ b2) ∧ (3 < (Lib.decodeN n b0 b1 b2 b3).2 → 128 ≤ b3) ∧ (Lib.decodeN n b0 b1 b2 b3).2 ≤ 4 := by
  unfold Lib.decodeN
  repeat' split
  all_goals (simp only; omega)
theorem get_nat (s : ByteArray) (j : Nat) (b : UInt8) (h : s.data.toList[j]? = some b) : s.get! j = b := by
  have hj : j < s.size := by
    rw [Lib.size_eq]
    rcases Nat.lt_or_ge j s.data.toList.length with h1 | h1
    · exact h1
    · rw [List.getElem?_eq_none h1] at h; cases h
  have e := Lib.data_getElem? s j hj
  rw [e] at h
  injection h with h
  have := get_at s j hj
  simp at this
  rw [this, h]
/-- The bytes of one code point that is not ASCII are none of "=!". -/
theorem NoAny_decode {s : ByteArray} {i : Nat} (hi : i < s.size) (h : Lib.NoAny s.data.toList [61, 33] i) (hx : 128 ≤ (s.get! i).toNat) : Lib.NoAny s.data.toList [61, 33] (i + (Utf8.decode s i).2) := by
  have hd := decodeN_cont (s.size - i) (s.get! i).toNat (s.get! (i + 1)).toNat (s.get! (i + 2)).toNat (s.get! (i + 3)).toNat (by omega)
  rw [← Lib.decode_at] at hd
  obtain ⟨_, h1, h2, h3, h4, h5⟩ := hd
  intro j b hj hb
  have hg := get_nat s j b hb
  have key : ∀ c : UInt8, 128 ≤ c.toNat → List.contains [61, 33] c = false := fun c hc => by
    have e1 : (c == 61) = false := beq_eq_false_iff_ne.2 (fun e => by rw [e] at hc; revert hc; decide)
    have e2 : (c == 33) = false := beq_eq_false_iff_ne.2 (fun e => by rw [e] at hc; revert hc; decide)
    simp [List.contains, List.elem, e1, e2]
  rcases Nat.lt_or_ge j i with hlt | hge
  · exact h j b hlt hb
  · apply key
    rw [← hg]
    obtain ⟨d, rfl⟩ : ∃ d, j = i + d := ⟨j - i, by omega⟩
    match d, hj with
    | 0, _ => exact hx
    | 1, hj => exact h2 (by omega)
    | 2, hj => exact h3 (by omega)
    | 3, hj => exact h4 (by omega)
    | d + 4, hj => omega

set_option maxRecDepth 100000 in
set_option maxHeartbeats 1000000 in
/-- strings.IndexRune at a code point that is not ASCII: there is none in "=!". -/
theorem irune_error (w : World) : Calls Tryd.prog 57 #[.string ⟨#[61, 33]⟩, .int .i32 65533] w fun e w' => e = .returned (.int .i64 (-1)) ∧ Below w.heap.size w w' := by
  go_enter Tryd.func57, Tryd.ntmps57
  go_wp2
  have n0 := fun ty => run_next_ascii (P := Tryd.prog) w ⟨#[61, 33]⟩ 0 ty (by decide) (by decide)
  have n1 := fun ty => run_next_ascii (P := Tryd.prog) w ⟨#[61, 33]⟩ 1 ty (by decide) (by decide)
  have n2 := fun ty => run_next_end (P := Tryd.prog) w ⟨#[61, 33]⟩ 2 ty (by decide)
  go_loopg [5, 6] 3 (fun k _ _ wr => ∃ i : Nat, i + k = 3 ∧ i ≤ 2 ∧ wr = w.iter ⟨#[61, 33]⟩ i)
  case atStart => exact ⟨0, by omega, by omega, rfl⟩
  case round =>
    obtain ⟨i, hik, hil, rfl⟩ := hrel
    match i, hik, hil with
    | 0, hik, _ =>
      go_wp2
      go_roundg 2
      case measure => omega
      case rel => exact ⟨1, by omega, by omega, rfl⟩
    | 1, hik, _ =>
      go_wp2
      go_roundg 1
      case measure => omega
      case rel => exact ⟨2, by omega, by omega, rfl⟩
    | 2, hik, _ =>
      go_wp2
      go_ret
      exact ⟨rfl, Below.alloc (Below.refl _ _) (Nat.le_refl _) _⟩

theorem valid_eq (r : Int) : Utf8.valid r = Lib.validRune r := by
  unfold Utf8.valid Lib.validRune
  rw [Bool.eq_iff_iff]
  simp
  omega
set_option maxRecDepth 100000 in
set_option maxHeartbeats 1000000 in
theorem irune_high (r : Int) (h0 : 128 ≤ r) (h1 : r ≤ 2147483647) (w : World) : Calls Tryd.prog 57 #[.string ⟨#[61, 33]⟩, .int .i32 r] w fun e w' => e = .returned (.int .i64 (-1)) ∧ Below w.heap.size w w' := by
  by_cases he : r = 65533
  · subst he; exact irune_error w
  have c1 : decide (r < 128) = false := decide_eq_false (by omega)
  have c0 : decide (0 ≤ r) = true := decide_eq_true (by omega)
  have c2 : (r == 65533) = false := beq_eq_false_iff_ne.2 he
  have hva : Calls Tryd.prog 67 #[.int .i32 r] w fun e w' => e = .returned (.bool (Lib.validRune r)) ∧ w' = w := Any.utf8_ValidRune { shelf153 with } r w
  have HVA := Lib.hid hva
  clear hva
  cases hv : Lib.validRune r with
  | false =>
    have HV := Lib.hid hv
    clear hv
    go_enter Tryd.func57, Tryd.ntmps57
    go_wp2_with (go_at_call 67; (fail_if_success (have := HQ)); ((refine (HVA.out).mono ?_); rintro e w3 ⟨rfl, hw⟩; rw [hw, HV.out]; clear hw; have HQ := HV))
    go_ret
    exact ⟨rfl, Below.refl _ _⟩
  | true =>
    have HV := Lib.hid hv
    obtain ⟨e1, e2, e3⟩ := encode_facts r (by rw [← hv]; exact valid_eq r) h0
    clear hv
    by_cases h2 : (Utf8.encode r).size = 2
    · have hlt : 1 < (Utf8.encode r).size := by omega
      have hb : 128 ≤ ((Utf8.encode r)[1]'hlt).toNat := by
        have := e3 (by omega)
        simp only [h2] at this
        exact this
      have hw2 : IntKind.i64.wrap 2 = 2 := by decide
      have hne : ((((⟨#[61, 33]⟩ : ByteArray)[1]'(by decide)).toNat : Int) != (((Utf8.encode r)[1]'hlt).toNat : Int)) = true := by
        have : ((⟨#[61, 33]⟩ : ByteArray)[1]'(by decide)).toNat = 33 := rfl
        simp [this]; omega
      have hib : ∀ W, Calls Tryd.prog 66 #[.string ByteArray.empty, .int .u8 (((Utf8.encode r)[1]'hlt).toNat : Int)] W fun e w' => e = .returned (.int .i64 (-1)) ∧ w' = W := fun W => (Any.strings_IndexByte { shelf153 with } _ _ W).mono fun e w' ⟨h1, h2⟩ => ⟨by rw [h1]; rfl, h2⟩
      clear e1 e2 e3
      go_enter Tryd.func57, Tryd.ntmps57
      go_wp2_with (go_at_call 67; (fail_if_success (have := HQ)); ((refine (HVA.out).mono ?_); rintro e w3 ⟨rfl, hw⟩; rw [hw, HV.out]; clear hw; have HQ := HV))
      go_step3
      go_wp2
      go_loopg [9] 1 (fun k u9 wr => k = 1 ∧ u9 = .int .i64 1 ∧ wr = w)
      case atStart => exact ⟨rfl, rfl, rfl⟩
      case round =>
        obtain ⟨rfl, rfl, rfl⟩ := hrel
        go_wp2
        go_step3
        go_wp2
        go_quiet (fail)
        have HBQ := Lib.hid (show Below wr.heap.size wr (wr.drewN nq) from ⟨rfl, rfl, rfl, Nat.le_refl _, fun _ _ => rfl⟩)
        obtain ⟨wq, hwq⟩ : ∃ wq, wr.drewN nq = wq := ⟨_, rfl⟩
        rw [hwq] at HBQ ⊢
        clear hwq
        go_wp2
        go_quiet (exact Calls.quiet_of_same (hib _))
        go_wp2
        rw [Exit.noGoto_ret]
        simp only [Exit.inBlock, Exit.then, Exit.noGoto_ret]
        go_ret
        exact ⟨rfl, HBQ.out.trans ⟨rfl, rfl, rfl, Nat.le_refl _, fun _ _ => rfl⟩⟩
    · have hsz : ¬ (((Utf8.encode r).size : Int) - 1 < 2) := by omega
      have hsd : decide (((Utf8.encode r).size : Int) - 1 < 2) = false := decide_eq_false hsz
      have hw : IntKind.i64.wrap (((Utf8.encode r).size : Int) - 1) = ((Utf8.encode r).size : Int) - 1 := IntWalk.i64_in _ (by omega)
      clear e3
      go_enter Tryd.func57, Tryd.ntmps57
      go_wp2_with (go_at_call 67; (fail_if_success (have := HQ)); ((refine (HVA.out).mono ?_); rintro e w3 ⟨rfl, hw⟩; rw [hw, HV.out]; clear hw; have HQ := HV))
      go_step3
      go_wp2
      go_loopg [9] 1 (fun k u9 wr => k = 1 ∧ u9 = .int .i64 (((Utf8.encode r).size : Int) - 1) ∧ wr = w)
      case atStart => exact ⟨rfl, rfl, rfl⟩
      case round =>
        obtain ⟨rfl, rfl, rfl⟩ := hrel
        go_wp2
        rw [Exit.noGoto_ret]
        go_ret
        exact ⟨rfl, Below.refl _ _⟩

set_option maxRecDepth 100000 in
set_option maxHeartbeats 2000000 in
theorem idx8_calls (s : ByteArray) (h8 : s.size ≤ 8) (w : World) : Calls Tryd.prog 42 #[.string s, .string ⟨#[61, 33]⟩] w fun e w' => e = .returned (.int .i64 (Lib.indexAny s.data.toList [61, 33])) ∧ Below w.heap.size w w' := by
  have h8z : decide ((8 : Int) < (s.size : Int)) = false := decide_eq_false (by omega)
  have hsh : Calls Tryd.prog 58 #[.int .i64 (s.size : Int)] w fun e w' => e = .returned (.bool (decide ((8 : Int) < (s.size : Int)))) ∧ w' = w := Any.strings_shouldUseASCIISet { shelf153 with } (s.size : Int) w
  rw [h8z] at hsh
  have HSH := Lib.hid hsh
  have HIA : Hid (∀ (x : UInt8) (W : World), x.toNat < 128 → Calls Tryd.prog 57 #[.string ⟨#[61, 33]⟩, .int .i32 (x.toNat : Int)] W fun e w' => e = .returned (.int .i64 (Lib.indexByte [61, 33] x)) ∧ w' = W) := Lib.hid (fun x W hx => (Any.strings_IndexRune_ascii { shelf153 with } ⟨#[61, 33]⟩ (x.toNat : Int) W (by omega) (by omega)).mono fun e w' ⟨h1, h2⟩ => ⟨by rw [h1]; simp, h2⟩)
  clear hsh
  go_enter Tryd.func42, Tryd.ntmps42
  go_wp2_with (go_at_call 58; (fail_if_success (have := HQ)); ((refine (HSH.out).mono ?_); rintro e w3 ⟨rfl, hw⟩; rw [hw]; clear hw; have HQ := HSH))
  go_loopg [9, 10] (s.size + 1) (fun k _ _ wr => ∃ i : Nat, i + k = s.size + 1 ∧ i ≤ s.size ∧ Hid (wr.heap[w.heap.size]? = some (.stringIter s i)) ∧ Hid (Lib.NoAny s.data.toList [61, 33] i) ∧ Hid (Below w.heap.size w wr))
  case atStart => exact ⟨0, by omega, by omega, Lib.hid (World.iter_heap _ _ _), Lib.hid (Lib.NoAny.zero _ _), Lib.hid (Below.alloc (Below.refl _ _) (Nat.le_refl _) _)⟩
  case round =>
    obtain ⟨i, hik, hil, HIT, HN, hbel⟩ := hrel
    obtain ⟨wo, rfl⟩ : ∃ m : World, m = wr := ⟨_, rfl⟩
    by_cases hi : i < s.size
    · obtain ⟨x, hx⟩ : ∃ x : UInt8, s[i]'hi = x := ⟨_, rfl⟩
      have hxl : s.data.toList[i]? = some x := by rw [← hx]; exact Lib.data_getElem? s i hi
      have hnx := fun ty => next_blk (P := Tryd.prog) wo w.heap.size s i ty HIT.out hi
      have HXL := Lib.hid hxl
      obtain ⟨r, hr⟩ : ∃ r : Nat, (Utf8.decode s i).1 = r := ⟨_, rfl⟩
      obtain ⟨d, hd⟩ : ∃ d : Nat, (Utf8.decode s i).2 = d := ⟨_, rfl⟩
      rw [hr, hd] at hnx
      obtain ⟨w1, hw1⟩ : ∃ w1, setIter wo w.heap.size s (i + d) = w1 := ⟨_, rfl⟩
      rw [hw1] at hnx
      have HI1 : Hid (w1.heap[w.heap.size]? = some (.stringIter s (i + d))) := Lib.hid (by rw [← hw1]; exact setIter_at HIT.out _ _)
      have HB1 : Hid (Below w.heap.size w w1) := Lib.hid (by rw [← hw1]; exact setIter_below hbel.out (Nat.le_refl _) _ _)
      have hg : s.get! i = x := get_nat s i x hxl
      have hdc := decodeN_cont (s.size - i) (s.get! i).toNat (s.get! (i + 1)).toNat (s.get! (i + 2)).toNat (s.get! (i + 3)).toNat (by omega)
      rw [← Lib.decode_at, hd] at hdc
      obtain ⟨hd1, hd2, -, -, -, -⟩ := hdc
      by_cases hlo : x.toNat < 128
      · have hda := decode_ascii s i hi (by rw [hx]; exact hlo)
        rw [hx] at hda
        obtain rfl : x.toNat = r := by rw [← hr, hda]
        obtain rfl : 1 = d := by rw [← hd, hda]
        have HIA1 := Lib.hid (HIA.out x w1 hlo)
        have hcon := Lib.contains_iff_indexByte [61, 33] x
        cases hin : List.contains [61, 33] x with
        | false =>
          rw [hin] at hcon
          have hlt : ¬ ((0 : Int) ≤ Lib.indexByte [61, 33] x) := of_decide_eq_false hcon.symm
          have HN1 := Lib.hid (HN.out.succ HXL.out hin)
          clear hcon hr hd hw1 hg hda hxl hx hin
          go_wp2_with (go_at_call 57; (fail_if_success (have := HR)); ((refine (HIA1.out).mono ?_); rintro e w5 ⟨rfl, hw⟩; rw [hw]; clear hw; have HR := HN1))
          all_goals (go_roundg (gk - 1))
          case measure => omega
          case rel => exact ⟨i + 1, by omega, by omega, HI1, HN1, HB1⟩
        | true =>
          rw [hin] at hcon
          have hge : (0 : Int) ≤ Lib.indexByte [61, 33] x := of_decide_eq_true hcon.symm
          have HHIT := Lib.hid (Lib.indexAny_hit HN.out HXL.out hin)
          clear hcon hr hd hw1 hg hda hxl hx hin
          go_wp2_with (go_at_call 57; (fail_if_success (have := HR)); ((refine (HIA1.out).mono ?_); rintro e w5 ⟨rfl, hw⟩; rw [hw]; clear hw; have HR := HHIT))
          go_ret
          exact ⟨by rw [HHIT.out]; rfl, HB1.out⟩
      · have hhi := (decode_high s i hi (by rw [hx]; omega)).1
        rw [hr] at hhi
        have hle := decode_le s i
        rw [hr] at hle
        have HRR := Lib.hid (irune_high (r : Int) (by omega) (by omega) w1)
        have HN1 := Lib.hid (NoAny_decode hi HN.out (by rw [hg]; omega))
        rw [hd] at HN1
        have hsz1 := HB1.out.size
        clear hr hd hw1 hg hxl hx hhi hle hlo
        go_wp2_with (go_at_call 57; (fail_if_success (have := HR)); ((refine (HRR.out).mono ?_); rintro e w5 ⟨rfl, hb5⟩; have HR := HN1))
        go_roundg (gk - d)
        case measure => omega
        case rel => exact ⟨i + d, by omega, by omega, Lib.hid (by rw [hb5.block _ (block_lt HI1.out)]; exact HI1.out), HN1, Lib.hid (HB1.out.trans (hb5.mono hsz1))⟩
    · have hnx := fun ty => next_blk_end (P := Tryd.prog) wo w.heap.size s i ty HIT.out hi
      obtain rfl : i = s.size := by omega
      have HNO := Lib.hid (Lib.indexAny_none (by rw [← Lib.size_eq]; exact HN.out))
      go_wp2
      go_ret
      exact ⟨by rw [HNO.out]; rfl, hbel.out⟩
end Go.Proofs.YtmlmnckhiianhaaDoor
