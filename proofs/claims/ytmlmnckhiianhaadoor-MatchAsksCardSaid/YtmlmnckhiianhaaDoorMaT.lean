/- The law's own example (awake), walked. -/
import Derived.Test.YtmlmnckhiianhaaDoorMaS
namespace Go.Proofs.YtmlmnckhiianhaaDoor
open Go.RowKit Rx
set_option linter.unusedVariables false
set_option linter.unusedSimpArgs false

def awake12 : Rx := .either [.row [.byte (fun x => x == 121), .star (.byte (fun _ => true))]]
theorem awake12_parse : Rx.parse [121, 46, 42] = .ok awake12 := rfl
theorem awake12_yes : L awake12 [121, 122] := by
  simp only [awake12, L, LAny, LRow, or_false]
  exact ⟨[121], [122], rfl, ⟨121, rfl, rfl⟩, [122], [], rfl, .cons (a := [122]) (b := []) ⟨122, rfl, by first | rfl | trivial⟩ .nil, rfl⟩
theorem awake12_no : ¬ L awake12 [] := by
  simp only [awake12, L, LAny, LRow, or_false]
  rintro ⟨a, b, h1, ⟨c, rfl, hc⟩, _⟩
  simp at h1
theorem example_check : checkErr [⟨[97], 0, [120]⟩, ⟨[98], 2, [121, 46, 42]⟩] = 0 := by
  rw [checkErr_ok]
  refine ⟨by decide, fun m hm => ?_⟩
  simp only [List.mem_cons, List.not_mem_nil, or_false] at hm
  rcases hm with rfl | rfl
  · rfl
  · rfl
theorem example_yes : holdsAll [⟨[97], 0, [120]⟩, ⟨[98], 2, [121, 46, 42]⟩] [⟨[97], [120]⟩, ⟨[98], [121, 122]⟩] = true := by
  unfold holdsAll
  simp only [List.all_cons, List.all_nil, Bool.and_true, valOf, holdsV, asks, awake12_parse]
  simp [mt_true awake12_yes]
theorem example_no : holdsAll [⟨[97], 0, [120]⟩, ⟨[98], 2, [121, 46, 42]⟩] [⟨[97], [120]⟩] = false := by
  unfold holdsAll
  simp only [List.all_cons, List.all_nil, Bool.and_true, valOf, holdsV, asks, awake12_parse]
  simp [mt_false awake12_no]
theorem LS_two {w : World} {g T : Nat} {fr : Nat × Nat} {a b c d : ByteArray} (h : w.heap[g]? = some (.cells #[.string a, .string b, .string c, .string d] T fr)) : LS w (.slice (some ⟨g, 0, none⟩) 2 2) [(a, b), (c, d)] :=
  ⟨_, 2, rfl, by simp, fun i x hx => ⟨g, 0, rfl, fun j v hv => by
    rw [blk_cell h]
    match i, hx with
    | 0, hx =>
      simp at hx; subst hx
      match j, hv with
      | 0, hv => simpa using hv
      | 1, hv => simpa using hv
      | j + 2, hv => simp at hv
    | 1, hx =>
      simp at hx; subst hx
      match j, hv with
      | 0, hv => simpa using hv
      | 1, hv => simpa using hv
      | j + 2, hv => simp at hv
    | i + 2, hx => simp at hx⟩⟩
theorem LS_one {w : World} {g T : Nat} {fr : Nat × Nat} {a b : ByteArray} (h : w.heap[g]? = some (.cells #[.string a, .string b] T fr)) : LS w (.slice (some ⟨g, 0, none⟩) 1 1) [(a, b)] :=
  ⟨_, 1, rfl, by simp, fun i x hx => ⟨g, 0, rfl, fun j v hv => by
    rw [blk_cell h]
    match i, hx with
    | 0, hx =>
      simp at hx; subst hx
      match j, hv with
      | 0, hv => simpa using hv
      | 1, hv => simpa using hv
      | j + 2, hv => simp at hv
    | i + 1, hx => simp at hx⟩⟩

theorem check_mats {l : List SM} (h : checkErr (l.map toMat) = 0) : ∀ (i : Nat) (x : SM), l[i]? = some x → matErr (toMat x) = 0 := fun i x hx =>
  (checkErr_ok.1 h).2 _ (List.mem_map.2 ⟨x, List.mem_of_getElem? hx, rfl⟩)

set_option maxRecDepth 100000 in
set_option maxHeartbeats 1000000 in
theorem awake12_calls (w : World) (ho : Ops w) : Calls Tryd.prog 10 #[] w fun e w' => e = .returned (.bool true) ∧ Below w.heap.size w w' := by
  have HPC : Hid (∀ W, Ops W → Calls Tryd.prog 14 #[.string ⟨#[123, 97, 61, 34, 120, 34, 44, 98, 61, 126, 34, 121, 46, 42, 34, 125]⟩] W fun e w' => (∃ g l, e = .returned (.tuple #[.pointer (some ⟨g, 0, none⟩), .int .i64 0]) ∧ Sel w' g l ∧ l.map toMat = [⟨[97], 0, [120]⟩, ⟨[98], 2, [121, 46, 42]⟩]) ∧ Below W.heap.size W w') := Lib.hid (fun W hW => (mparse_calls _ (by decide) W hW).mono fun e w' ⟨h1, h2⟩ => by
    unfold MPRes at h1
    rw [show parseM (bys ⟨#[123, 97, 61, 34, 120, 34, 44, 98, 61, 126, 34, 121, 46, 42, 34, 125]⟩) = some [⟨[97], 0, [120]⟩, ⟨[98], 2, [121, 46, 42]⟩] from parse_example] at h1
    rcases h1 with ⟨h3, _⟩ | ⟨_, h3⟩
    · exact absurd example_check h3
    · exact ⟨h3, h2⟩)
  have HA : Hid (∀ y, y ∈ [((⟨#[97]⟩ : ByteArray), (⟨#[120]⟩ : ByteArray)), (⟨#[98]⟩, ⟨#[121, 122]⟩)] → y.2.size ≤ 64) := Lib.hid (fun y hy => by simp only [List.mem_cons, List.not_mem_nil, or_false] at hy; rcases hy with rfl | rfl <;> decide)
  have HB : Hid (∀ y, y ∈ [((⟨#[97]⟩ : ByteArray), (⟨#[120]⟩ : ByteArray))] → y.2.size ≤ 64) := Lib.hid (fun y hy => by simp only [List.mem_cons, List.not_mem_nil, or_false] at hy; rcases hy with rfl; decide)
  go_enter Tryd.func10, Tryd.ntmps10
  go_wp2_with (first | (go_at_call 14; (fail_if_success (have := hbP)); ((refine (HPC.out _ ho).mono ?_); rintro e w3 ⟨⟨g, l, rfl, hsel, hlm⟩, hbP⟩); have HS := Lib.hid hsel; have HMM := Lib.hid (check_mats (l := l) (by rw [hlm]; exact example_check)); have HY : Hid (holdsAll (l.map toMat) ([((⟨#[97]⟩ : ByteArray), (⟨#[120]⟩ : ByteArray)), (⟨#[98]⟩, ⟨#[121, 122]⟩)].map toLbl) = true) := Lib.hid (by rw [hlm]; exact example_yes); have HN : Hid (holdsAll (l.map toMat) ([((⟨#[97]⟩ : ByteArray), (⟨#[120]⟩ : ByteArray))].map toLbl) = false) := Lib.hid (by rw [hlm]; exact example_no); clear hsel hlm) | (go_at_call 13; (fail_if_success (have := hb1)); ((refine (selMatch_calls g l _ (HS.out.below (Below.alloc (Below.refl _ _) (Nat.le_refl _) _)) HMM.out _ [(⟨#[97]⟩, ⟨#[120]⟩), (⟨#[98]⟩, ⟨#[121, 122]⟩)] (LS_two (blk_new _ _)) HA.out).mono ?_); rintro e w4 ⟨rfl, hb1⟩; rw [HY.out])) | (go_at_call 13; (fail_if_success (have := hb2)); ((refine (selMatch_calls g l _ (((HS.out.below (Below.alloc (Below.refl _ _) (Nat.le_refl _) _)).below hb1).below (Below.alloc (Below.refl _ _) (Nat.le_refl _) _)) HMM.out _ [(⟨#[97]⟩, ⟨#[120]⟩)] (LS_one (blk_new _ _)) HB.out).mono ?_); rintro e w5 ⟨rfl, hb2⟩; rw [HN.out])))
  go_ret
  exact ⟨rfl, below_thn (below_thn (below_thn (below_thn hbP (Below.alloc (Below.refl _ _) (Nat.le_refl _) _)) hb1) (Below.alloc (Below.refl _ _) (Nat.le_refl _) _)) hb2⟩
end Go.Proofs.YtmlmnckhiianhaaDoor
