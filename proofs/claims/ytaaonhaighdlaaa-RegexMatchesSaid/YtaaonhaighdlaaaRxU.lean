/- RegexClasses, walked: it answers true, whatever the bytes. -/
import Derived.Test.YtaaonhaighdlaaaRxT
import Derived.Laws.IdiomStrings
namespace Go.Proofs.Ytaaonhaighdlaaa
open Go.RowKit Rx
set_option linter.unusedVariables false
set_option linter.unusedSimpArgs false

theorem bys_append (a b : ByteArray) : bys (a ++ b) = bys a ++ bys b := by
  unfold bys
  simp

theorem esc_calls (b : UInt8) (w : World) : Calls Try.prog 12 #[.int .u8 (b.toNat : Int)] w fun e w' => ∃ s : ByteArray, e = .returned (.string s) ∧ bys s = [92, b.toNat] ∧ s.size = 2 ∧ Below w.heap.size w w' := by
  have kc := run_convert_bytes_back (P := Try.prog) (w.alloc (.cells #[.int .u8 (b.toNat : Int)] 5)) 34 9 5 ⟨w.heap.size, 0, none⟩ 1 [b] Try.underlying34 Try.underlying5 Try.underlying9 (fun j hj => by
    match j, hj with
    | 0, _ => exact (blk_cell (o := 0) (blk_new w _)).trans rfl)
  simp only [List.length_cons, List.length_nil] at kc
  go_enter Try.func12, Try.ntmps12
  go_wp2
  go_ret
  refine ⟨_, rfl, ?_, ?_, (Below.refl _ _).alloc (Nat.le_refl _) _⟩
  · rw [bys_append]
    rfl
  · rw [← bys_len, bys_append]
    rfl

theorem pSigns_end (t : List Nat) (f : Nat) (x : Rx) : pSigns t f t.length x = (x, t.length) := by
  cases f with
  | zero => rfl
  | succ f => simp [pSigns, sign]
/-- A text that is one part. -/
theorem parse_single {t : List Nat} {x : Rx} (ht : t.length ≤ 64) (h0 : 0 < t.length) (h1 : t[0]? ≠ some 124) (h2 : t[0]? ≠ some 41) (hp : pPart (pPat t 7) t 0 = .ok (x, t.length)) : Rx.parse t = .ok (.either [.row [x]]) := by
  obtain ⟨n, hn⟩ : ∃ n, t.length = n + 1 := ⟨t.length - 1, by omega⟩
  have hT : pTimes (pPat t 7) t 0 = .ok (x, t.length) := by
    unfold pTimes
    rw [hp]
    simp only [pSigns_end]
  have hE : pParts (pPat t 7) t t.length t.length [x] = .ok ([x], t.length) := by
    rw [hn]
    unfold pParts
    rw [if_neg (by omega)]
  have hR : pRow (pPat t 7) t 0 = .ok (.row [x], t.length) := by
    unfold pRow pParts
    rw [if_pos ⟨h0, h1, h2⟩, hT]
    simp only [List.nil_append, hE]
  have hB : pBars (pPat t 7) t (t.length + 1) t.length [.row [x]] = .ok ([.row [x]], t.length) := by
    unfold pBars
    rw [if_neg (by simp)]
  unfold Rx.parse
  rw [if_neg (by omega)]
  have hP : pPat t 8 0 = .ok (.either [.row [x]], t.length) := by
    unfold pPat
    rw [hR]
    simp only [hB]
  rw [hP]
  simp only [Nat.lt_irrefl, if_false]
/-- The texts that RegexClasses makes. -/
theorem cls_parse (lo hi : Nat) (h : lo ≤ hi) : Rx.parse [91, 92, lo, 45, 92, hi, 93] = .ok (.either [.row [.byte (fun c => false || (decide (lo ≤ c) && decide (c ≤ hi)))]]) := by
  refine parse_single (by simp) (by simp) (by simp) (by simp) ?_
  have hI : pItem [91, 92, lo, 45, 92, hi, 93] 1 = .ok ((lo, hi), 6) := by
    unfold pItem
    rw [show pOne [91, 92, lo, 45, 92, hi, 93] 1 = .ok (lo, 3) from rfl]
    simp only
    rw [if_pos (by simp), show pOne [91, 92, lo, 45, 92, hi, 93] (3 + 1) = .ok (hi, 6) from rfl]
    simp only
    rw [if_neg (by omega)]
  have hC : pClass [91, 92, lo, 45, 92, hi, 93] 1 = .ok (.byte (fun c => false || (decide (lo ≤ c) && decide (c ≤ hi))), 7) := by
    unfold pClass
    rw [if_neg (by simp)]
    unfold pItems
    rw [hI]
    simp only
    rw [if_pos (by simp)]
    rfl
  exact hC
theorem not_parse (lo hi : Nat) (h : lo ≤ hi) : Rx.parse [91, 94, 92, lo, 45, 92, hi, 93] = .ok (.either [.row [.byte (fun c => !(false || (decide (lo ≤ c) && decide (c ≤ hi))))]]) := by
  refine parse_single (by simp) (by simp) (by simp) (by simp) ?_
  have hI : pItem [91, 94, 92, lo, 45, 92, hi, 93] 2 = .ok ((lo, hi), 7) := by
    unfold pItem
    rw [show pOne [91, 94, 92, lo, 45, 92, hi, 93] 2 = .ok (lo, 4) from rfl]
    simp only
    rw [if_pos (by simp), show pOne [91, 94, 92, lo, 45, 92, hi, 93] (4 + 1) = .ok (hi, 7) from rfl]
    simp only
    rw [if_neg (by omega)]
  have hC : pClass [91, 94, 92, lo, 45, 92, hi, 93] 1 = .ok (.byte (fun c => !(false || (decide (lo ≤ c) && decide (c ≤ hi)))), 8) := by
    unfold pClass
    rw [if_pos (by simp)]
    unfold pItems
    rw [show (1 + 1) = 2 from rfl, hI]
    simp only
    rw [if_pos (by simp)]
    rfl
  exact hC
theorem dot_parse : Rx.parse [46] = .ok (.either [.row [.byte (fun _ => true)]]) := rfl
theorem L_byte (p : Nat → Bool) (u : List Nat) : L (.either [.row [.byte p]]) u ↔ ∃ c, u = [c] ∧ p c = true := by
  simp only [L, LAny, LRow, or_false]
  constructor
  · rintro ⟨a, b, rfl, ⟨c, rfl, hc⟩, rfl⟩
    exact ⟨c, rfl, hc⟩
  · rintro ⟨c, rfl, hc⟩
    exact ⟨[c], [], rfl, ⟨c, rfl, hc⟩, rfl⟩
theorem mt_one (p : Nat → Bool) (c : Nat) : mt (.either [.row [.byte p]]) [c] = p c := by
  cases hp : p c with
  | true => exact mt_true ((L_byte p _).2 ⟨c, rfl, hp⟩)
  | false => exact mt_false (fun h => by
      obtain ⟨d, hd, hc⟩ := (L_byte p _).1 h
      injection hd with hd _
      subst hd
      rw [hp] at hc
      cases hc)
theorem mt_nil (p : Nat → Bool) : mt (.either [.row [.byte p]]) [] = false := mt_false (fun h => by
  obtain ⟨d, hd, hc⟩ := (L_byte p _).1 h
  cases hd)
theorem mt_two (p : Nat → Bool) (c d : Nat) : mt (.either [.row [.byte p]]) [c, d] = false := mt_false (fun h => by
  obtain ⟨d, hd, hc⟩ := (L_byte p _).1 h
  cases hd)
end Go.Proofs.Ytaaonhaighdlaaa
