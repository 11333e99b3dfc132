/- Matchers as they lie in memory; whether all is light; copies of matchers: walked. -/
import Derived.Test.YtmlmnckhiianhaaDoorMaD
import Derived.Deep.OwnRows
import Derived.Deep.AppendLies
namespace Go.Proofs.YtmlmnckhiianhaaDoor
open Go.RowKit Go.Sort
set_option linter.unusedVariables false
set_option linter.unusedSimpArgs false

/-- A matcher's name, how, value. -/
structure SM where
  name : ByteArray
  op : Int
  value : ByteArray
  deriving Inhabited
def smCells (m : SM) : List Value := [.string m.name, .int .i64 m.op, .string m.value]
/-- A slice of matchers. -/
def MS (w : World) (v : Value) (l : List SM) : Prop :=
  ∃ (A : Option Addr) (c : Nat), v = .slice A l.length c ∧ l.length ≤ 140737488351232 ∧ ∀ (i : Nat) (x : SM), l[i]? = some x → ∃ g o : Nat, A = some ⟨g, o, none⟩ ∧ w.rangeAt g (o + i * 3) (smCells x)
theorem MS.below {w w' : World} {v : Value} {l : List SM} (h : MS w v l) (hb : Below w.heap.size w w') : MS w' v l := by
  obtain ⟨A, c, h1, h2, h3⟩ := h
  exact ⟨A, c, h1, h2, fun i x hx => by
    obtain ⟨g, o, h4, h5⟩ := h3 i x hx
    exact ⟨g, o, h4, rangeAt_below h5 hb⟩⟩

set_option maxRecDepth 100000 in
set_option maxHeartbeats 4000000 in
theorem light_calls (v u : Value) (l : List SM) (x : List (ByteArray × ByteArray)) (w : World) (hl : MS w v l) (hx : LS w u x) : Calls Tryd.prog 8 #[v, u] w fun e w' => ∃ b, e = .returned (.bool b) ∧ (b = true → ∀ y, y ∈ x → y.2.size ≤ 64) ∧ Below w.heap.size w w' := by
  obtain ⟨A, c, rfl, hn, hm⟩ := hl
  have HM := Lib.hid hm
  have HX := Lib.hid hx
  obtain ⟨A2, c2, rfl, hn2, hm2⟩ := hx
  have HM2 := Lib.hid hm2
  clear hm hm2
  go_enter Tryd.func8, Tryd.ntmps8
  go_wp2
  go_loopg [5, 12] (l.length + 1) (fun k u5 u12 wr => ∃ (i : Nat) (n : Int), u5 = .int .i64 n ∧ u12 = .int .i64 (i : Int) ∧ i + k = l.length + 1 ∧ i ≤ l.length ∧ Below w.heap.size w wr)
  case atStart => exact ⟨0, 0, rfl, rfl, by omega, by omega, Below.refl _ _⟩
  case round =>
    obtain ⟨i, n, rfl, rfl, hik, hil, hbel⟩ := hrel
    obtain ⟨wo, rfl⟩ : ∃ m : World, m = wr := ⟨_, rfl⟩
    by_cases hi : i < l.length
    · have hc1 : decide (i < l.length) = true := decide_eq_true hi
      have hc2 : (i : Int) < (l.length : Int) := by omega
      have hc3 : (0 : Int) ≤ (i : Int) := by omega
      obtain ⟨g, o, rfl, hrg⟩ := HM.out i _ (List.getElem?_eq_getElem hi)
      have HRG := Lib.hid (rangeAt_below hrg hbel)
      clear hrg
      generalize l[i] = y at *
      unfold smCells at HRG
      by_cases h100 : 100 < y.value.size
      · have hc4 : decide ((100 : Int) < (y.value.size : Int)) = true := decide_eq_true (by omega)
        go_wp2_with (refine wpList_load_mid rfl _ (.tmp 14) rfl g (o + i * 3) rfl _ _ HRG.out Tryd.underlying28 rfl (by kernel_rfl) ?_)
        go_ret
        exact ⟨_, rfl, fun h => (by cases h), hbel.trans ((Below.refl _ _).alloc (by have := hbel.size; omega) _)⟩
      · have hc4 : decide ((100 : Int) < (y.value.size : Int)) = false := decide_eq_false (by omega)
        go_wp2_with (refine wpList_load_mid rfl _ (.tmp 14) rfl g (o + i * 3) rfl _ _ HRG.out Tryd.underlying28 rfl (by kernel_rfl) ?_)
        go_roundg (gk - 1)
        case measure => omega
        case rel => exact ⟨i + 1, _, rfl, by go_num, by omega, by omega, hbel.trans ((Below.refl _ _).alloc (by have := hbel.size; omega) _)⟩
    · have hc1 : decide (i < l.length) = false := decide_eq_false hi
      go_wp2
      go_loopg [33] (x.length + 1) (fun k u33 wr => ∃ j : Nat, u33 = .int .i64 (j : Int) ∧ j + k = x.length + 1 ∧ j ≤ x.length ∧ Hid (∀ y, y ∈ x.take j → y.2.size ≤ 64) ∧ Below w.heap.size w wr)
      case atStart => exact ⟨0, rfl, by omega, by omega, Lib.hid (fun y hy => by simp at hy), hbel⟩
      case round =>
        obtain ⟨j, rfl, hjk, hjl, hsm, hbel2⟩ := hrel
        obtain ⟨wi, rfl⟩ : ∃ m : World, m = wr := ⟨_, rfl⟩
        by_cases hj : j < x.length
        · have hd1 : decide (j < x.length) = true := decide_eq_true hj
          have hd2 : (j : Int) < (x.length : Int) := by omega
          have hd3 : (0 : Int) ≤ (j : Int) := by omega
          obtain ⟨y, hyl⟩ : ∃ y, x[j]? = some y := ⟨_, List.getElem?_eq_getElem hj⟩
          obtain ⟨g, o, rfl, hrg⟩ := HM2.out j y hyl
          have HRG := Lib.hid (rangeAt_below hrg hbel2)
          have HYL := Lib.hid hyl
          clear hrg hyl
          by_cases h64 : 64 < y.2.size
          · have hd4 : decide ((64 : Int) < (y.2.size : Int)) = true := decide_eq_true (by omega)
            go_wp2_with (refine wpList_load_mid rfl _ (.tmp 35) rfl g (o + j * 2) rfl _ _ HRG.out Tryd.underlying40 rfl (by kernel_rfl) ?_)
            go_ret
            exact ⟨_, rfl, fun h => (by cases h), hbel2.trans ((Below.refl _ _).alloc (by have := hbel2.size; omega) _)⟩
          · have hd4 : decide ((64 : Int) < (y.2.size : Int)) = false := decide_eq_false (by omega)
            go_wp2_with (refine wpList_load_mid rfl _ (.tmp 35) rfl g (o + j * 2) rfl _ _ HRG.out Tryd.underlying40 rfl (by kernel_rfl) ?_)
            go_roundg (gk - 1)
            case measure => omega
            case rel => exact ⟨j + 1, by go_num, by omega, by omega, Lib.hid (fun z hz => by
              rw [List.take_add_one, HYL.out] at hz
              simp only [List.mem_append, Option.toList_some, List.mem_singleton] at hz
              rcases hz with hz | rfl
              · exact hsm.out z hz
              · omega), hbel2.trans ((Below.refl _ _).alloc (by have := hbel2.size; omega) _)⟩
        · have hd1 : decide (j < x.length) = false := decide_eq_false hj
          have hall : ∀ y, y ∈ x → y.2.size ≤ 64 := fun y hy => hsm.out y (by rw [List.take_of_length_le (by omega)]; exact hy)
          have HALL := Lib.hid hall
          clear hall
          obtain ⟨q, hq⟩ : ∃ q : Bool, decide (n ≤ 600) = q := ⟨_, rfl⟩
          cases q with
          | true =>
            go_wp2_with (go_at_call 19; ((refine (light10_calls _ x _ (by exact HX.out.below hbel2)).mono ?_); rintro e w3 ⟨b3, rfl, hb3⟩))
            go_ret
            exact ⟨_, rfl, fun _ => HALL.out, below_thn hbel2 hb3⟩
          | false =>
            go_wp2
            go_ret
            exact ⟨_, rfl, fun _ => HALL.out, hbel2⟩
end Go.Proofs.YtmlmnckhiianhaaDoor
