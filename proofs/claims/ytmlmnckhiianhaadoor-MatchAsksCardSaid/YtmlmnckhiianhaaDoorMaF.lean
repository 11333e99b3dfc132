/- Copies of matchers, walked. -/
import Derived.Test.YtmlmnckhiianhaaDoorMaE
import Derived.Test.YtmlmnckhiianhaaDoorRxT
namespace Go.Proofs.YtmlmnckhiianhaaDoor
open Go.RowKit Go.Sort
set_option linter.unusedVariables false
set_option linter.unusedSimpArgs false

/-- Matchers, cell by cell. -/
def flatM : List SM → List Value
  | [] => []
  | m :: l => .string m.name :: .int .i64 m.op :: .string m.value :: flatM l
theorem flatM_len : ∀ l : List SM, (flatM l).length = l.length * 3
  | [] => rfl
  | m :: l => by simp [flatM, flatM_len l]; omega
theorem flatM_snoc : ∀ (l : List SM) (m : SM), flatM (l ++ [m]) = flatM l ++ [.string m.name, .int .i64 m.op, .string m.value]
  | [], m => rfl
  | a :: l, m => by simp [flatM, flatM_snoc l m]
theorem flatM_get : ∀ (l : List SM) (i : Nat) (m : SM), l[i]? = some m → ∀ (j : Nat) (v : Value), (smCells m)[j]? = some v → (flatM l)[i * 3 + j]? = some v
  | [], i, m, h => by simp at h
  | a :: l, 0, m, h => by
    simp at h; subst h
    intro j v hj
    match j, hj with
    | 0, hj => simpa [smCells, flatM] using hj
    | 1, hj => simpa [smCells, flatM] using hj
    | 2, hj => simpa [smCells, flatM] using hj
  | a :: l, i + 1, m, h => by
    intro j v hj
    have := flatM_get l i m (by simpa using h) j v hj
    have e : (i + 1) * 3 + j = i * 3 + j + 1 + 1 + 1 := by omega
    rw [e]
    exact this
theorem MS.of_row {w : World} {B T : Nat} {v : Value} {l : List SM} (h : w.ownsRow B T 3 v l.length (flatM l)) (hn : l.length ≤ 140737488351232) : MS w v l := by
  rcases h.2 with ⟨rfl, h0⟩ | ⟨g, cap, cur, rfl, hB, hg, h1, h2, h3, h4⟩
  · refine ⟨none, 0, by rw [h0], hn, fun i x hx => ?_⟩
    have := (List.getElem?_eq_some_iff.1 hx).1
    omega
  · refine ⟨_, cap, rfl, hn, fun i x hx => ⟨g, 0, rfl, fun j u hj => ?_⟩⟩
    have hil := (List.getElem?_eq_some_iff.1 hx).1
    have hj3 : j < 3 := by have := (List.getElem?_eq_some_iff.1 hj).1; simpa [smCells] using this
    have e := flatM_get l i x hx j u hj
    have ec : w.cell? ⟨g, 0 + i * 3 + j, none⟩ = cur[0 + i * 3 + j]? := blk_cell hg
    rw [ec, Nat.zero_add, ← e, ← h4, List.getElem?_take_of_lt (by omega)]
    simp
theorem Tryd.infoMat : (Tryd.prog.info? 36).map (fun i => (i.zero, i.size, i.bytes)) = some (some (.agg #[.string ⟨#[]⟩, .int .i64 0, .string ⟨#[]⟩]), 3, 40) := by kernel_rfl

set_option maxRecDepth 100000 in
set_option maxHeartbeats 4000000 in
theorem to_calls (v : Value) (l : List SM) (w : World) (hl : MS w v l) (hn : l.length ≤ 1000) : Calls Tryd.prog 12 #[v] w fun e w' => ∃ v', e = .returned v' ∧ MS w' v' l ∧ Below w.heap.size w w' := by
  obtain ⟨i0, hinf, hz0, hz1, hz2⟩ := info_parts Tryd.infoMat
  obtain ⟨A, c, rfl, hn2, hm⟩ := hl
  have HM := Lib.hid hm
  clear hm
  go_enter Tryd.func12, Tryd.ntmps12
  go_wp2
  go_loopg [3, 8] (l.length + 1) (fun k u3 u8 wr => ∃ (i : Nat), u8 = .int .i64 (i : Int) ∧ i + k = l.length + 1 ∧ i ≤ l.length ∧ Hid (wr.ownsRow w.heap.size 36 3 u3 i (flatM (l.take i))) ∧ Below w.heap.size w wr)
  case atStart => exact ⟨0, rfl, by omega, by omega, Lib.hid ⟨rfl, .inl ⟨rfl, rfl⟩⟩, Below.refl _ _⟩
  case round =>
    obtain ⟨i, rfl, hik, hil, HO, hbel⟩ := hrel
    obtain ⟨wo, rfl⟩ : ∃ m : World, m = wr := ⟨_, rfl⟩
    by_cases hi : i < l.length
    · have hc1 : decide (i < l.length) = true := decide_eq_true hi
      have hc2 : (i : Int) < (l.length : Int) := by omega
      have hc3 : (0 : Int) ≤ (i : Int) := by omega
      obtain ⟨x, hxl⟩ : ∃ x, l[i]? = some x := ⟨_, List.getElem?_eq_getElem hi⟩
      obtain ⟨g, o, rfl, hrg⟩ := HM.out i x hxl
      have HRG := Lib.hid (rangeAt_below hrg hbel)
      have HTK := Lib.hid (show flatM (l.take (i + 1)) = flatM (l.take i) ++ [.string x.name, .int .i64 x.op, .string x.value] by rw [List.take_add_one, hxl]; exact flatM_snoc _ _)
      clear hrg hxl
      unfold smCells at HRG
      go_wp2_with (first | (refine wpList_load_mid rfl _ (.tmp 10) rfl g (o + i * 3) rfl _ _ HRG.out Tryd.underlying28 rfl (by kernel_rfl) ?_) | (at_builtin; go_loud (refine wpList_append_lies _ rfl (.tmp 12) (.tmp 14) 33 rfl w.heap.size 36 i0 (.agg #[.string ⟨#[]⟩, .int .i64 0, .string ⟨#[]⟩]) 3 40 Tryd.underlying33 hinf hz0 hz1 hz2 rfl (by decide) u3 i (flatM (l.take i)) rfl (by exact (HO.out.alloc _).alloc _) ⟨_, 0, none⟩ 1 1 [.string x.name, .int .i64 x.op, .string x.value] rfl rfl (World.news_of_block (blk_new' _ _ _ (by simp))) (fun u hu => by simp at hu; rcases hu with rfl | rfl | rfl <;> rfl) (by decide) (by unfold maxLen; omega) (by omega) (by have := hbel.size; simp; omega) _ rfl (fun g1 cap w3 hown3 hgr3 hor3 hlt3 => ?_))))
      go_roundg (gk - 1)
      case measure => omega
      case rel => exact ⟨i + 1, by go_num, by omega, by omega, Lib.hid (by rw [HTK.out]; exact hown3), (((Chg.of_below (M := fun k => w.heap.size ≤ k) hbel).alloc _).alloc _ |>.grown hgr3 (fun k hk => .inr (HO.out.lt k hk).1)).below (fun k hk h => by omega)⟩
    · have hc1 : decide (i < l.length) = false := decide_eq_false hi
      obtain rfl : i = l.length := by omega
      go_wp2
      go_ret
      exact ⟨u3, rfl, MS.of_row (by have := HO.out; rw [List.take_of_length_le (Nat.le_refl _)] at this; exact this) hn2, hbel⟩
end Go.Proofs.YtmlmnckhiianhaaDoor
