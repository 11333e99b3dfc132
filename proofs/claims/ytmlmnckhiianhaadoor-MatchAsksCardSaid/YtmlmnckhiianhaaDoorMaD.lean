/- Labels and matchers as they lie in memory; whether labels are light; the value of a name: walked. -/
import Derived.Test.YtmlmnckhiianhaaDoorMaC
import Derived.Deep.MidRow
import Derived.Deep.DeepCutAuto
namespace Go.Proofs.YtmlmnckhiianhaaDoor
open Go.RowKit Go.Sort
set_option linter.unusedVariables false
set_option linter.unusedSimpArgs false

/-- A slice of labels: name, value. -/
def LS (w : World) (v : Value) (l : List (ByteArray × ByteArray)) : Prop :=
  ∃ (A : Option Addr) (c : Nat), v = .slice A l.length c ∧ l.length ≤ 140737488351232 ∧ ∀ (i : Nat) (x : ByteArray × ByteArray), l[i]? = some x → ∃ g o : Nat, A = some ⟨g, o, none⟩ ∧ w.rangeAt g (o + i * 2) [.string x.1, .string x.2]
theorem rangeAt_below {w w' : World} {g o : Nat} {cs : List Value} (h : w.rangeAt g o cs) (hb : Below w.heap.size w w') : w'.rangeAt g o cs := fun j v hj => by
  have := h j v hj
  rw [hb.cell (block_lt_of_cell this)]
  exact this
theorem LS.below {w w' : World} {v : Value} {l : List (ByteArray × ByteArray)} (h : LS w v l) (hb : Below w.heap.size w w') : LS w' v l := by
  obtain ⟨A, c, h1, h2, h3⟩ := h
  exact ⟨A, c, h1, h2, fun i x hx => by
    obtain ⟨g, o, h4, h5⟩ := h3 i x hx
    exact ⟨g, o, h4, rangeAt_below h5 hb⟩⟩

set_option maxRecDepth 100000 in
set_option maxHeartbeats 4000000 in
theorem light10_calls (v : Value) (l : List (ByteArray × ByteArray)) (w : World) (hl : LS w v l) : Calls Tryd.prog 19 #[v] w fun e w' => ∃ b, e = .returned (.bool b) ∧ Below w.heap.size w w' := by
  obtain ⟨A, c, rfl, hn, hx⟩ := hl
  have HX := Lib.hid hx
  clear hx
  go_enter Tryd.func19, Tryd.ntmps19
  go_wp2
  go_loopg [3, 8] (l.length + 1) (fun k u3 u8 wr => ∃ (i : Nat) (n : Int), u3 = .int .i64 n ∧ u8 = .int .i64 (i : Int) ∧ i + k = l.length + 1 ∧ i ≤ l.length ∧ Below w.heap.size w wr)
  case atStart => exact ⟨0, 0, rfl, rfl, by omega, by omega, Below.refl _ _⟩
  case round =>
    obtain ⟨i, n, rfl, rfl, hik, hil, hbel⟩ := hrel
    obtain ⟨wo, rfl⟩ : ∃ m : World, m = wr := ⟨_, rfl⟩
    by_cases hi : i < l.length
    · have hc1 : decide (i < l.length) = true := decide_eq_true hi
      have hc2 : (i : Int) < (l.length : Int) := by omega
      have hc3 : (0 : Int) ≤ (i : Int) := by omega
      obtain ⟨g, o, rfl, hrg⟩ := HX.out i _ (List.getElem?_eq_getElem hi)
      have HRG := Lib.hid (rangeAt_below hrg hbel)
      clear hrg
      generalize l[i] = x at *
      go_wp2_with (refine wpList_load_mid rfl _ (.tmp 10) rfl g (o + i * 2) rfl _ _ HRG.out Tryd.underlying40 rfl (by kernel_rfl) ?_)
      go_roundg (gk - 1)
      case measure => omega
      case rel => exact ⟨i + 1, _, rfl, by go_num, by omega, by omega, hbel.trans ((Below.refl _ _).alloc (by have := hbel.size; omega) _)⟩
    · have hc1 : decide (i < l.length) = false := decide_eq_false hi
      go_wp2
      go_ret
      exact ⟨_, rfl, hbel⟩

/-- The value of a name. -/
def getB : List (ByteArray × ByteArray) → ByteArray → ByteArray
  | [], _ => ⟨#[]⟩
  | x :: l, s => if x.1 = s then x.2 else getB l s
theorem getB_skip {s : ByteArray} : ∀ {l : List (ByteArray × ByteArray)} {i : Nat}, (∀ (j : Nat) (x : ByteArray × ByteArray), j < i → l[j]? = some x → x.1 ≠ s) → getB l s = getB (l.drop i) s
  | [], i, _ => by simp
  | x :: l, 0, _ => rfl
  | x :: l, i + 1, h => by
    rw [List.drop_succ_cons]
    conv => lhs; unfold getB
    rw [if_neg (h 0 x (by omega) rfl)]
    exact getB_skip fun j y hj hy => h (j + 1) y (by omega) (by simpa using hy)
theorem str_eq (s t : ByteArray) : decide (s = t) = (s.toList == t.toList) := by
  by_cases h : s = t
  · rw [decide_eq_true h, h]; simp
  · rw [decide_eq_false h]
    exact (beq_eq_false_iff_ne.2 (fun e => h (by
      obtain ⟨⟨l⟩⟩ := s
      obtain ⟨⟨m⟩⟩ := t
      simp only [ByteArray.toList_eq] at e
      rw [e]))).symm
set_option maxRecDepth 100000 in
set_option maxHeartbeats 4000000 in
theorem get_calls (v : Value) (l : List (ByteArray × ByteArray)) (s : ByteArray) (w : World) (hl : LS w v l) : Calls Tryd.prog 25 #[v, .string s] w fun e w' => e = .returned (.string (getB l s)) ∧ Below w.heap.size w w' := by
  obtain ⟨A, c, rfl, hn, hx⟩ := hl
  have HX := Lib.hid hx
  clear hx
  go_enter Tryd.func25, Tryd.ntmps25
  go_wp2
  go_loopg [9] (l.length + 1) (fun k u9 wr => ∃ i : Nat, u9 = .int .i64 (i : Int) ∧ i + k = l.length + 1 ∧ i ≤ l.length ∧ Hid (∀ (j : Nat) (x : ByteArray × ByteArray), j < i → l[j]? = some x → x.1 ≠ s) ∧ Below w.heap.size w wr)
  case atStart => exact ⟨0, rfl, by omega, by omega, Lib.hid (fun j x hj => by omega), Below.refl _ _⟩
  case round =>
    obtain ⟨i, rfl, hik, hil, hno, hbel⟩ := hrel
    obtain ⟨wo, rfl⟩ : ∃ m : World, m = wr := ⟨_, rfl⟩
    by_cases hi : i < l.length
    · have hc1 : decide (i < l.length) = true := decide_eq_true hi
      have hc2 : (i : Int) < (l.length : Int) := by omega
      have hc3 : (0 : Int) ≤ (i : Int) := by omega
      obtain ⟨x, hxl⟩ : ∃ x, l[i]? = some x := ⟨_, List.getElem?_eq_getElem hi⟩
      obtain ⟨g, o, rfl, hrg⟩ := HX.out i x hxl
      have HRG := Lib.hid (rangeAt_below hrg hbel)
      have HXL := Lib.hid hxl
      clear hrg hxl
      obtain ⟨E, hE⟩ : ∃ E : Bool, (x.1.toList == s.toList) = E := ⟨_, rfl⟩
      have HE := Lib.hid ((str_eq x.1 s).trans hE)
      cases E with
      | true =>
        have hxs : x.1 = s := of_decide_eq_true HE.out
        have hres : getB l s = x.2 := by
          rw [getB_skip hno.out, List.drop_eq_getElem_cons hi]
          have e : l[i] = x := by have := HXL.out; rw [List.getElem?_eq_getElem hi] at this; injection this
          rw [e]
          unfold getB
          rw [if_pos hxs]
        have HRES := Lib.hid hres
        clear hres hxs
        go_wp2_with (refine wpList_load_mid rfl _ (.tmp 11) rfl g (o + i * 2) rfl _ _ HRG.out Tryd.underlying40 rfl (by kernel_rfl) ?_)
        go_ret
        exact ⟨congrArg (fun b => Ending.returned (.string b)) HRES.out.symm, hbel.trans ((Below.refl _ _).alloc (by have := hbel.size; omega) _)⟩
      | false =>
        have hxs : x.1 ≠ s := of_decide_eq_false HE.out
        have HXS := Lib.hid hxs
        clear hxs
        go_wp2_with (refine wpList_load_mid rfl _ (.tmp 11) rfl g (o + i * 2) rfl _ _ HRG.out Tryd.underlying40 rfl (by kernel_rfl) ?_)
        go_roundg (gk - 1)
        case measure => omega
        case rel => exact ⟨i + 1, by go_num, by omega, by omega, Lib.hid (fun j y hj hy => by
          by_cases e : j = i
          · subst e
            have := HXL.out.symm.trans hy
            injection this with this
            rw [← this]; exact HXS.out
          · exact hno.out j y (by omega) hy), hbel.trans ((Below.refl _ _).alloc (by have := hbel.size; omega) _)⟩
    · have hc1 : decide (i < l.length) = false := decide_eq_false hi
      have hres : getB l s = ⟨#[]⟩ := by
        rw [getB_skip hno.out, List.drop_eq_nil_of_le (by omega)]; rfl
      have HRES := Lib.hid hres
      clear hres
      go_wp2
      go_ret
      exact ⟨congrArg (fun b => Ending.returned (.string b)) HRES.out.symm, hbel⟩
end Go.Proofs.YtmlmnckhiianhaaDoor
