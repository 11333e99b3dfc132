/- (*Selector).Matchers, walked. -/
import Derived.Test.YtmlmnckhiianhaaDoorMaJ
namespace Go.Proofs.YtmlmnckhiianhaaDoor
open Go.RowKit Go.Sort
set_option linter.unusedVariables false
set_option linter.unusedSimpArgs false

/-- The cells of a slice of matchers, all of them. -/
theorem MS.cells {w : World} {A : Addr} {l : List SM} {c : Nat} (h : MS w (.slice (some A) l.length c) l) : ∀ j u, (flatM l)[j]? = some u → w.cell? (A.add j) = some u := by
  obtain ⟨A', c', e, hn, hm⟩ := h
  injection e with e1 e2 e3
  intro j u hu
  have hj := (List.getElem?_eq_some_iff.1 hu).1
  rw [flatM_len] at hj
  obtain ⟨x, hx⟩ : ∃ x, l[j / 3]? = some x := ⟨_, List.getElem?_eq_getElem (by omega)⟩
  obtain ⟨g, o, h1, h2⟩ := hm (j / 3) x hx
  rw [← e1] at h1
  injection h1 with h1
  subst h1
  have h3 : (smCells x)[j % 3]? = some u := by
    have hlt : j % 3 < 3 := Nat.mod_lt _ (by decide)
    obtain ⟨v, hv⟩ : ∃ v, (smCells x)[j % 3]? = some v := ⟨_, List.getElem?_eq_getElem (by simpa [smCells] using hlt)⟩
    have := flatM_get l (j / 3) x hx (j % 3) v hv
    rw [Nat.mul_comm, Nat.div_add_mod] at this
    rw [this] at hu
    rw [hv]; exact hu
  have h4 := h2 (j % 3) u h3
  have e4 : o + j / 3 * 3 + j % 3 = o + j := by have := Nat.div_add_mod j 3; omega
  rw [e4] at h4
  unfold Addr.add
  split
  · rename_i h0; subst h0; exact h4
  · exact h4
theorem flatM_one : ∀ (l : List SM) (u : Value), u ∈ flatM l → u.oneCell' = true
  | [], u, h => by simp [flatM] at h
  | a :: l, u, h => by
    simp only [flatM, List.mem_cons] at h
    rcases h with rfl | rfl | rfl | h
    · rfl
    · rfl
    · rfl
    · exact flatM_one l u h

theorem MS_nil (A : Option Addr) (c : Nat) (w : World) : MS w (.slice A 0 c) [] := ⟨A, c, rfl, by simp, fun i x hx => by simp at hx⟩
set_option maxRecDepth 100000 in
set_option maxHeartbeats 1000000 in
/-- The matchers of a selector: as they are, in a block of their own. -/
theorem matchers_calls (g : Nat) (l : List SM) (w : World) (hs : Sel w g l) (hn : l.length ≤ 1000000) : Calls Tryd.prog 15 #[.pointer (some ⟨g, 0, none⟩)] w fun e w' => ∃ v, e = .returned v ∧ MS w' v l ∧ Below w.heap.size w w' := by
  obtain ⟨i0, hinf, hz0, hz1, hz2⟩ := info_parts Tryd.infoMat
  obtain ⟨lv, rv, vs, hblk, hms, -⟩ := hs
  have HM := Lib.hid hms
  obtain ⟨A, c, rfl, -, -⟩ := hms
  have c0 : w.cell? ⟨g, 0, none⟩ = some (.slice A l.length c) := (blk_cell hblk).trans rfl
  clear hblk
  by_cases hz : l.length = 0
  · obtain rfl := List.length_eq_zero_iff.1 hz
    clear hz
    rcases A with _ | A1
    · go_enter Tryd.func15, Tryd.ntmps15
      go_wp2
      go_ret
      exact ⟨_, rfl, MS_nil none _ _, Below.refl _ _⟩
    · go_enter Tryd.func15, Tryd.ntmps15
      go_wp2
      go_ret
      exact ⟨_, rfl, MS_nil none _ _, Below.refl _ _⟩
  · rcases A with _ | A1
    · exfalso
      obtain ⟨A', c', e, hn2, hm⟩ := HM.out
      injection e with e1 e2 e3
      obtain ⟨x, hx⟩ : ∃ x, l[0]? = some x := ⟨_, List.getElem?_eq_getElem (by omega)⟩
      obtain ⟨g2, o, h1, h2⟩ := hm 0 x hx
      rw [← e1] at h1; cases h1
    · have hpos : 0 < l.length := by omega
      have HC := Lib.hid (HM.out.cells)
      clear hz
      go_enter Tryd.func15, Tryd.ntmps15
      go_wp2_with (at_builtin; go_loud (refine wpList_append_lies _ rfl (.const (.slice none 0 0)) (.tmp 8) 33 rfl w.heap.size 36 i0 (.agg #[.string ⟨#[]⟩, .int .i64 0, .string ⟨#[]⟩]) 3 40 Tryd.underlying33 hinf hz0 hz1 hz2 rfl (by decide) (.slice none 0 0) 0 [] rfl (by exact ⟨rfl, .inl ⟨rfl, rfl⟩⟩) A1 l.length c (flatM l) rfl (flatM_len l) (by exact HC.out) (flatM_one l) hpos (by unfold maxLen; omega) (by omega) (by first | exact Nat.le_refl _ | simp) _ rfl (fun g1 cap w4 hown4 hgr4 hor4 hlt4 => ?_)))
      go_ret
      rw [Nat.zero_add, List.nil_append] at hown4
      exact ⟨_, rfl, MS.of_row (w := w4) (v := .slice (some ⟨g1, 0, none⟩) l.length cap) hown4 (by omega), Chg.below ((Chg.of_below (M := fun k => w.heap.size ≤ k) (Below.refl _ _)).grown hgr4 (fun k hk => by simp [Value.ownBlock] at hk)) (fun k hk h => by omega)⟩
end Go.Proofs.YtmlmnckhiianhaaDoor
