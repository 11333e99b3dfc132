/- What is wrong with matchers as they lie in memory; plain. -/
import Derived.Test.YtmlmnckhiianhaaDoorMaA
import Derived.Test.YtmlmnckhiianhaaDoorMaF
namespace Go.Proofs.YtmlmnckhiianhaaDoor
open Go.RowKit Go.Sort
set_option linter.unusedVariables false
set_option linter.unusedSimpArgs false

def toMat (m : SM) : Mat := ⟨bys m.name, m.op, bys m.value⟩
theorem matErr_range {x : SM} (h : x.op < 0 ∨ 3 < x.op) : matErr (toMat x) = 1 := by unfold matErr; rw [if_pos (show (toMat x).op < 0 ∨ 3 < (toMat x).op from h)]
theorem matErr_name {x : SM} (h : ¬ (x.op < 0 ∨ 3 < x.op)) (h2 : nameOK (bys x.name) = false ∨ 64 < x.value.size) : matErr (toMat x) = 26 := by
  unfold matErr; rw [if_neg (show ¬ ((toMat x).op < 0 ∨ 3 < (toMat x).op) from h), if_pos (by
    rcases h2 with h2 | h2
    · exact .inl h2
    · exact .inr (by show 64 < (bys x.value).length; rw [bys_len]; exact h2))]
theorem matErr_low {x : SM} (h : ¬ (x.op < 0 ∨ 3 < x.op)) (h2 : nameOK (bys x.name) = true) (h3 : ¬ 64 < x.value.size) : matErr (toMat x) = if 2 ≤ x.op then parseErr (bys x.value) else 0 := by
  unfold matErr; rw [if_neg (show ¬ ((toMat x).op < 0 ∨ 3 < (toMat x).op) from h), if_neg (by
    rintro (h4 | h4)
    · exact absurd (show nameOK (bys x.name) = false from h4) (by rw [h2]; decide)
    · exact h3 (by rw [← bys_len]; exact h4))]
  rfl
theorem matErr_like {x : SM} (h : ¬ (x.op < 0 ∨ 3 < x.op)) (h2 : nameOK (bys x.name) = true) (h3 : ¬ 64 < x.value.size) (h4 : 2 ≤ x.op) : matErr (toMat x) = parseErr (bys x.value) := by rw [matErr_low h h2 h3, if_pos h4]
theorem matErr_plain {x : SM} (h : ¬ (x.op < 0 ∨ 3 < x.op)) (h2 : nameOK (bys x.name) = true) (h3 : ¬ 64 < x.value.size) (h4 : ¬ 2 ≤ x.op) : matErr (toMat x) = 0 := by rw [matErr_low h h2 h3, if_neg h4]
theorem matsErr_cons {x : SM} {l : List SM} {i R : Nat} (hx : l[i]? = some x) (h : matsErr ((l.drop i).map toMat) = R) : (if matErr (toMat x) = 0 then matsErr ((l.drop (i + 1)).map toMat) else matErr (toMat x)) = R := by
  have hi := (List.getElem?_eq_some_iff.1 hx).1
  have hdr : l.drop i = x :: l.drop (i + 1) := by
    rw [List.drop_eq_getElem_cons hi]; congr 1
    rw [List.getElem?_eq_getElem hi] at hx; injection hx
  rw [hdr, List.map_cons, matsErr] at h
  exact h
theorem checkErr_long {l : List SM} (h : 16 < l.length) : checkErr (l.map toMat) = 9 := by unfold checkErr; rw [if_pos (by simpa using h)]
theorem checkErr_short {l : List SM} (h : ¬ 16 < l.length) : checkErr (l.map toMat) = matsErr (l.map toMat) := by unfold checkErr; rw [if_neg (by simpa using h)]
theorem matsErr_end {l : List SM} {i R : Nat} (hi : l.length ≤ i) (h : matsErr ((l.drop i).map toMat) = R) : R = 0 := by
  rw [List.drop_eq_nil_of_le hi] at h
  exact h.symm
theorem blk_below {w w' : World} (hb : Below w.heap.size w w') {g : Nat} {o : Obj} (h : w.heap[g]? = some o) : w'.heap[g]? = some o := (hb.block g (blk_lt h)).trans h
end Go.Proofs.YtmlmnckhiianhaaDoor
