/- Arguments: slices of matchers and of labels, opened; the variable ops, opened. -/
import Derived.Test.YtmlmnckhiianhaaDoorMaT
import Derived.Test.YtmlmnckhiianhaaDoorRows
import Derived.ProofKit
import Derived.OpenShut
import Derived.LaidMore
import Derived.Deep.Slices
import Derived.Deep.SlicePairs
import Derived.ChangeMaps5
namespace Go.Proofs.YtmlmnckhiianhaaDoor
open Go.ChangeShapes Go.WideShapes Go.ChangeAt Go.RowKit Go.ChangeMaps Go.Deep
set_option linter.unusedVariables false
set_option linter.unusedSimpArgs false

theorem Tryd.c9 : Tryd.prog.cellsOf 9 = 1 := by kernel_rfl
theorem Tryd.c3 : Tryd.prog.cellsOf 3 = 1 := by kernel_rfl
theorem Tryd.cRefM : Tryd.prog.cellsOf 28 = 3 := by kernel_rfl
theorem Tryd.cLabel : Tryd.prog.cellsOf 40 = 2 := by kernel_rfl
theorem Tryd.bRefM : Tryd.prog.bytesOf 28 = 40 := by kernel_rfl
theorem Tryd.bLabel : Tryd.prog.bytesOf 40 = 32 := by kernel_rfl
instance : Inhabited SM := ⟨⟨⟨#[]⟩, 0, ⟨#[]⟩⟩⟩

theorem add_form {W : World} {a : Addr} {v : Value} (h : W.cell? a = some v) : a = ⟨a.block, a.off, none⟩ := by
  unfold World.cell? at h
  split at h
  · split at h
    · cases h
    · rename_i hs
      cases a with
      | mk b o s =>
        cases s with
        | none => rfl
        | some x => exact absurd rfl hs
  · cases h
theorem add_none (b o n : Nat) : (⟨b, o, none⟩ : Addr).add n = ⟨b, o + n, none⟩ := by
  unfold Addr.add
  split
  · rename_i h; subst h; rfl
  · rfl
set_option maxRecDepth 100000 in
theorem open_ms {H : Type} {enc : TypeId × Value → H} {W : World} {A : Option Addr} {len c : Nat} {d : DataW H} {ps : List MemPlace} (hd : DataW.Trod enc Tryd.prog W 0 (fun _ => true) true 22 (.slice A len c) d ps)
    (hr : ∀ a b, d = .slice a b → (a.length + b.length) * 40 ≤ 140737488351232) : ∃ l : List SM, MS W (.slice A len c) l ∧ l.length * 40 ≤ 140737488351232 := by
  obtain ⟨fuel, hf⟩ := hd
  rcases open_slice Tryd.underlying22 hf with ⟨h1, h2⟩ | ⟨a, len', cap, m, n, D, Pl, h1, hb, hl, hm, hmm, hx, hel⟩
  · simp [Value.cells] at h1
    obtain ⟨rfl, rfl, rfl⟩ := h1
    exact ⟨[], ⟨none, 0, rfl, by simp, fun i x hx => by simp at hx⟩, by simp⟩
  · simp [Value.cells] at h1
    obtain ⟨rfl, rfl, rfl⟩ := h1
    simp only [if_true] at hmm
    subst hmm
    simp only [Prod.mk.injEq] at hx
    have hlen := hr _ _ hx.1
    simp only [List.length_map, List.length_range] at hlen
    have each : ∀ i, i < len → ∃ x : SM, W.cell? (a.add (i * 3)) = some (.string x.name) ∧ W.cell? (a.add (i * 3 + 1)) = some (.int .i64 x.op) ∧ W.cell? (a.add (i * 3 + 2)) = some (.string x.value) := fun i hi => by
      obtain ⟨cs', h2, h3⟩ := hel i (by omega)
      rw [Tryd.cRefM] at h2
      obtain ⟨_, hlen', hcell⟩ := World.cells?_some h2
      obtain ⟨xs, k, hk, hxy, _, hxl, hfd⟩ := DataW.trod_struct Tryd.underlying28 h3
      match xs, hxl, cs', hlen' with
      | [y0, y1, y2], _, [v0, v1, v2], _ =>
        have g0 := hfd 0 _ rfl
        have g1 := hfd 1 _ rfl
        have g2 := hfd 2 _ rfl
        have e9 := Tryd.c9
        have e3 := Tryd.c3
        simp [e9, e3] at g0 g1 g2
        obtain ⟨s0, q0, _, _⟩ := DataW.trod_string Tryd.underlying9 g0
        obtain ⟨z1, q1, _, _⟩ := DataW.trod_int Tryd.underlying3 g1
        obtain ⟨s2, q2, _, _⟩ := DataW.trod_string Tryd.underlying9 g2
        simp only [List.cons.injEq, and_true] at q0 q1 q2
        subst q0 q1 q2
        have e0 := hcell 0 (by omega)
        have e1 := hcell 1 (by omega)
        have e2 := hcell 2 (by omega)
        rw [Go.Deep.add_add] at e0 e1 e2
        exact ⟨⟨s0, z1, s2⟩, by simpa using e0, by simpa using e1, by simpa using e2⟩
    obtain ⟨q, hq⟩ := choose_lt each
    refine ⟨(List.range len).map q, ⟨some a, _, by simp; rfl, by simp; omega, fun i x hx => ?_⟩, by simp; omega⟩
    rw [List.getElem?_map] at hx
    obtain ⟨j, hj, rfl⟩ := Option.map_eq_some_iff.1 hx
    have hil : i < len := by have := (List.getElem?_eq_some_iff.1 hj).1; simpa using this
    obtain rfl : i = j := by
      rw [List.getElem?_range hil] at hj; injection hj
    have ha : a = ⟨a.block, a.off, none⟩ := by
      have h0 := (hq 0 (by omega)).1
      rw [Nat.zero_mul] at h0
      exact add_form (by simpa [Addr.add] using h0)
    obtain ⟨h0, h1, h2⟩ := hq i hil
    refine ⟨a.block, a.off, by rw [← ha], fun j v hv => ?_⟩
    rw [ha] at h0 h1 h2
    rw [add_none] at h0 h1 h2
    match j, hv with
    | 0, hv => simp [smCells] at hv; rw [← hv, ← h0]; rfl
    | 1, hv => simp [smCells] at hv; rw [← hv, ← h1]; rfl
    | 2, hv => simp [smCells] at hv; rw [← hv, ← h2]; rfl
    | j + 3, hv => simp [smCells] at hv
set_option maxRecDepth 100000 in
theorem open_ls {H : Type} {enc : TypeId × Value → H} {W : World} {A : Option Addr} {len c : Nat} {d : DataW H} {ps : List MemPlace} (hd : DataW.Trod enc Tryd.prog W 0 (fun _ => true) true 23 (.slice A len c) d ps)
    (hr : ∀ a b, d = .slice a b → (a.length + b.length) * 32 ≤ 140737488351232) : ∃ l : List (ByteArray × ByteArray), LS W (.slice A len c) l ∧ l.length * 32 ≤ 140737488351232 := by
  obtain ⟨fuel, hf⟩ := hd
  rcases open_slice Tryd.underlying23 hf with ⟨h1, h2⟩ | ⟨a, len', cap, m, n, D, Pl, h1, hb, hl, hm, hmm, hx, hel⟩
  · simp [Value.cells] at h1
    obtain ⟨rfl, rfl, rfl⟩ := h1
    exact ⟨[], ⟨none, 0, rfl, by simp, fun i x hx => by simp at hx⟩, by simp⟩
  · simp [Value.cells] at h1
    obtain ⟨rfl, rfl, rfl⟩ := h1
    simp only [if_true] at hmm
    subst hmm
    simp only [Prod.mk.injEq] at hx
    have hlen := hr _ _ hx.1
    simp only [List.length_map, List.length_range] at hlen
    have each : ∀ i, i < len → ∃ x : ByteArray × ByteArray, W.cell? (a.add (i * 2)) = some (.string x.1) ∧ W.cell? (a.add (i * 2 + 1)) = some (.string x.2) := fun i hi => by
      obtain ⟨cs', h2, h3⟩ := hel i (by omega)
      rw [Tryd.cLabel] at h2
      obtain ⟨_, hlen', hcell⟩ := World.cells?_some h2
      obtain ⟨xs, k, hk, hxy, _, hxl, hfd⟩ := DataW.trod_struct Tryd.underlying40 h3
      match xs, hxl, cs', hlen' with
      | [y0, y1], _, [v0, v1], _ =>
        have g0 := hfd 0 _ rfl
        have g1 := hfd 1 _ rfl
        have e9 := Tryd.c9
        simp [e9] at g0 g1
        obtain ⟨s0, q0, _, _⟩ := DataW.trod_string Tryd.underlying9 g0
        obtain ⟨s1, q1, _, _⟩ := DataW.trod_string Tryd.underlying9 g1
        simp only [List.cons.injEq, and_true] at q0 q1
        subst q0 q1
        have e0 := hcell 0 (by omega)
        have e1 := hcell 1 (by omega)
        rw [Go.Deep.add_add] at e0 e1
        exact ⟨⟨s0, s1⟩, by simpa using e0, by simpa using e1⟩
    obtain ⟨q, hq⟩ := choose_lt each
    refine ⟨(List.range len).map q, ⟨some a, _, by simp; rfl, by simp; omega, fun i x hx => ?_⟩, by simp; omega⟩
    rw [List.getElem?_map] at hx
    obtain ⟨j, hj, rfl⟩ := Option.map_eq_some_iff.1 hx
    have hil : i < len := by have := (List.getElem?_eq_some_iff.1 hj).1; simpa using this
    obtain rfl : i = j := by
      rw [List.getElem?_range hil] at hj; injection hj
    have ha : a = ⟨a.block, a.off, none⟩ := by
      have h0 := (hq 0 (by omega)).1
      rw [Nat.zero_mul] at h0
      exact add_form (by simpa [Addr.add] using h0)
    obtain ⟨h0, h1⟩ := hq i hil
    refine ⟨a.block, a.off, by rw [← ha], fun j v hv => ?_⟩
    rw [ha] at h0 h1
    rw [add_none] at h0 h1
    match j, hv with
    | 0, hv => simp at hv; rw [← hv, ← h0]; rfl
    | 1, hv => simp at hv; rw [← hv, ← h1]; rfl
    | j + 2, hv => simp at hv

/-- What the rows say of ops. -/
def laidOps : List (String × DataW Unit) := [("pluvial/match.ops", Rows.laid_pluvial_match_ops)]
theorem gOps : Tryd.prog.globalNamed "pluvial/match.ops" = some 0 := by kernel_rfl
theorem list4 {α : Type} {l : List α} (h : l.length = 4) : ∃ a b c d, l = [a, b, c, d] := by
  match l, h with
  | [a, b, c, d], _ => exact ⟨a, b, c, d, rfl⟩
theorem tOps : (Tryd.prog.globals[0]?).map (·.type) = some 71 := by kernel_rfl
theorem door_met (os : Os) (args : Array Value) : laidMetH Tryd.prog laidOps ((World.doorLaid Tryd.prog 400 os).forCall (fun _ _ => 0) ⟨#[], args, []⟩).memory :=
  laidMetH_of_parts3 (fuel := 8) (laidMet_of_run' 8 (by kernel_rfl) (by kernel_rfl)) (by kernel_rfl) (by kernel_rfl)
set_option maxRecDepth 100000 in
theorem ops_of_laid {W : World} (h : laidMetH Tryd.prog laidOps W) : Ops W := by
  rw [MakeChecks.laidMetH_plain _ _ _ (by kernel_rfl)] at h
  obtain ⟨ps, ⟨g0, t0, cs0, f0, p0, q0, hg0, ht0, hv0, hd0, hrest⟩, _, _⟩ := h
  obtain rfl := Option.some.inj (gOps.symm.trans hg0)
  obtain rfl := Option.some.inj (tOps.symm.trans ht0)
  obtain ⟨xs, m1, rfl, hx1, hlen, hn3, hel⟩ := DataW.trod_array Tryd.underlying71 hd0
  have c9 : Tryd.prog.cellsOf 9 = 1 := by kernel_rfl
  have c71 : Tryd.prog.cellsOf 71 = 4 := by kernel_rfl
  rw [c71] at hlen
  obtain ⟨l⟩ := cs0
  simp only [Prod.mk.injEq] at hx1
  have hx := hx1.1
  unfold Rows.laid_pluvial_match_ops at hx
  obtain ⟨a, b, c, d, rfl⟩ := list4 (l := l) hlen
  obtain ⟨x0, x1, x2, x3, rfl⟩ := list4 hn3
  · clear hd0 hx1 hrest
    simp only [List.map_cons, List.map_nil, DataW.agg.injEq, List.cons.injEq, and_true] at hx
    have lit (i : Nat) (hi : i < 4) (v : Value) (x : DataW Unit × List MemPlace) (bs : List UInt8) (h1 : ([a, b, c, d] : List Value)[i]? = some v) (h2 : ([x0, x1, x2, x3] : List (DataW Unit × List MemPlace))[i]? = some x) (h3 : x.1 = .lit (.string bs)) : W.cell? ⟨0, i, none⟩ = some (.string ⟨bs.toArray⟩) := by
      have h := hel i hi
      rw [c9, Nat.mul_one, h2] at h
      have ht : List.take 1 (List.drop i [a, b, c, d]) = [v] := by
        rw [List.drop_eq_getElem_cons (by simpa using hi)]
        rw [List.getElem?_eq_getElem (by simpa using hi)] at h1
        injection h1 with h1
        rw [h1]; rfl
      have h' : DataW.trod (fun x => ()) Tryd.prog W 0 (fun x => true) false m1 9 [v] = some x := by rw [← ht]; exact h
      obtain ⟨s, q1, q2, _⟩ := DataW.trod_string Tryd.underlying9 h'
      simp only [List.cons.injEq, and_true] at q1
      rw [q2] at h3
      simp only [DataW.lit.injEq, Lit.string.injEq] at h3
      have hc := World.var?_cell hg0 hv0 i
      rw [hc]
      show ([a, b, c, d] : List Value).toArray[i]? = _
      rw [List.getElem?_toArray, h1, q1, ← h3]
    intro j hj
    match j, hj with
    | 0, hj => exact lit 0 (by omega) a x0 [61] rfl rfl hx.1.symm
    | 1, hj => exact lit 1 (by omega) b x1 [33, 61] rfl rfl hx.2.1.symm
    | 2, hj => exact lit 2 (by omega) c x2 [61, 126] rfl rfl hx.2.2.1.symm
    | 3, hj => exact lit 3 (by omega) d x3 [33, 126] rfl rfl hx.2.2.2.symm
end Go.Proofs.YtmlmnckhiianhaaDoor
