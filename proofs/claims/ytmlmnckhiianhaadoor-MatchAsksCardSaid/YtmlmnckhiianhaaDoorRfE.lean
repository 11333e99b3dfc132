/- The document's pattern reader: rows of parts in memory. -/
import Derived.Test.YtmlmnckhiianhaaDoorRfD
namespace Go.Proofs.YtmlmnckhiianhaaDoor
open Go.RowKit
set_option linter.unusedVariables false
set_option linter.unusedSimpArgs false

abbrev Tr : Type := ByteArray × Value × Value
/-- Parts, cell by cell. -/
def flat : List Tr → List Value
  | [] => []
  | u :: us => .string u.1 :: u.2.1 :: u.2.2 :: flat us
theorem flat_len : ∀ us : List Tr, (flat us).length = us.length * 3
  | [] => rfl
  | u :: us => by simp [flat, flat_len us]; omega
theorem flat_snoc : ∀ (us : List Tr) (u : Tr), flat (us ++ [u]) = flat us ++ [.string u.1, u.2.1, u.2.2]
  | [], u => rfl
  | a :: us, u => by simp [flat, flat_snoc us u]
theorem flat_get : ∀ (us : List Tr) (i : Nat) (u : Tr), us[i]? = some u → (flat us)[3 * i]? = some (.string u.1) ∧ (flat us)[3 * i + 1]? = some u.2.1 ∧ (flat us)[3 * i + 2]? = some u.2.2
  | [], i, u, h => by simp at h
  | a :: us, 0, u, h => by simp at h; subst h; exact ⟨rfl, rfl, rfl⟩
  | a :: us, i + 1, u, h => by
    have := flat_get us i u (by simpa using h)
    have e : 3 * (i + 1) = 3 * i + 1 + 1 + 1 := by omega
    rw [e]
    exact this
/-- Parts, each with what it means. -/
def Nodes (w : World) (S : Nat → Prop) (us : List Tr) (l : List Rx) : Prop := us.length = l.length ∧ ∀ (i : Nat) (u : Tr) (y : Rx), us[i]? = some u → l[i]? = some y → NV w S u y
theorem Nodes.nil (w : World) (S : Nat → Prop) : Nodes w S [] [] := ⟨rfl, fun i u y h => by simp at h⟩
theorem Nodes.frame {w w' : World} {S S' : Nat → Prop} {us : List Tr} {l : List Rx} (h : Nodes w S us l) (hh : ∀ k, k < w.heap.size → S k → w'.heap[k]? = w.heap[k]? ∧ S' k) : Nodes w' S' us l :=
  ⟨h.1, fun i u y h1 h2 => (h.2 i u y h1 h2).frame hh⟩
theorem Nodes.snoc {w : World} {S : Nat → Prop} {us : List Tr} {l : List Rx} {u : Tr} {x : Rx} (h : Nodes w S us l) (hu : NV w S u x) : Nodes w S (us ++ [u]) (l ++ [x]) := by
  refine ⟨by simp [h.1], fun i v y h1 h2 => ?_⟩
  by_cases hi : i < us.length
  · rw [List.getElem?_append_left hi] at h1
    rw [List.getElem?_append_left (by rw [← h.1]; exact hi)] at h2
    exact h.2 i v y h1 h2
  · have hl := (List.getElem?_eq_some_iff.1 h1).1
    have e : i = us.length := by simp at hl; omega
    subst e
    rw [List.getElem?_append_right (Nat.le_refl _)] at h1
    rw [h.1, List.getElem?_append_right (Nat.le_refl _)] at h2
    simp at h1 h2
    subst h1; subst h2
    exact hu

/-- A node in the making at nb, with parts us; the result's box at B. -/
structure RW (B nb : Nat) (K : ByteArray) (kv : Value) (us : List Tr) (w : World) : Prop where
  box : NX w nb K (.slice none 0 0) kv
  rb : NX w B ⟨#[]⟩ (.slice none 0 0) (.slice none 0 0)
  own : w.ownsRow B 50 3 kv us.length (flat us)
  kB : some B ≠ kv.ownBlock
  kn : some nb ≠ kv.ownBlock
theorem RW.chg {B nb g : Nat} {K : ByteArray} {kv : Value} {us : List Tr} {w w' : World} (h : RW B nb K kv us w) (hc : Chg (· = g) w w') (hg : g < B) (hn : B < nb) : RW B nb K kv us w' :=
  ⟨h.box.chg hc (by omega), h.rb.chg hc (by omega), ownsRow_of h.own (fun k hk => hc.block k (h.own.lt k hk).2 (by have := (h.own.lt k hk).1; omega)), h.kB, h.kn⟩
theorem RW.isSl {B nb : Nat} {K : ByteArray} {kv : Value} {us : List Tr} {w : World} (h : RW B nb K kv us w) : IsSl kv := by
  rcases h.own.2 with ⟨rfl, _⟩ | ⟨g, cap, cur, rfl, _⟩
  · exact ⟨_, _, _, rfl⟩
  · exact ⟨_, _, _, rfl⟩
theorem RW.start (w : World) (K : ByteArray) (B : Nat) (hB : B = w.heap.size) (o : Obj) (ho : o = .cells #[.string K, .slice none 0 0, .slice none 0 0] 50) : RW B (B + 1) K (.slice none 0 0) [] ((w.alloc (.cells #[.string ⟨#[]⟩, .slice none 0 0, .slice none 0 0] 50)).alloc o) := by
  subst hB; subst ho
  exact ⟨blk_new' _ _ _ (by simp), blk_alloc (blk_new w _) _, ⟨rfl, .inl ⟨rfl, rfl⟩⟩, by simp [Value.ownBlock], by simp [Value.ownBlock]⟩
/-- Where the parts of a node in the making lie. -/
def NS (B nb : Nat) (kv : Value) : Nat → Prop := fun k => B < k ∧ k ≠ nb ∧ some k ≠ kv.ownBlock
theorem RW.push {B nb g g1 cap : Nat} {K : ByteArray} {kv : Value} {us : List Tr} {u : Tr} {wo W w3 : World} (h : RW B nb K kv us wo) (hc : Chg (· = g) wo W) (hg : g < B) (hn : B < nb)
    (own3 : w3.ownsRow B 50 3 (.slice (some ⟨g1, 0, none⟩) (us.length + 1) cap) (us.length + 1) (flat us ++ [.string u.1, u.2.1, u.2.2])) (hgr : W.grownBy w3 kv.ownBlock) (hor : kv.ownBlock = some g1 ∨ g1 = W.heap.size) :
    RW B nb K (.slice (some ⟨g1, 0, none⟩) (us.length + 1) cap) (us ++ [u]) (w3.setCell ⟨nb, 2, none⟩ (.slice (some ⟨g1, 0, none⟩) (us.length + 1) cap)) := by
  have hnl : nb < W.heap.size := Nat.lt_of_lt_of_le h.box.lt hc.size
  have hgn : g1 ≠ nb := by
    rcases hor with e | e
    · intro e'; subst e'; exact h.kn e.symm
    · omega
  have hgB : g1 ≠ B := by
    rcases hor with e | e
    · intro e'; subst e'; exact h.kB e.symm
    · omega
  refine ⟨NX.set2 (blk_grown (h.box.chg hc (by omega)) hgr h.kn) _, NX.far (blk_grown (h.rb.chg hc (by omega)) hgr h.kB) (by simp; omega) _, ?_, by simpa [Value.ownBlock] using fun e => hgB e.symm, by simpa [Value.ownBlock] using fun e => hgn e.symm⟩
  have hh := ownsRow_of (w' := w3.setCell ⟨nb, 2, none⟩ (.slice (some ⟨g1, 0, none⟩) (us.length + 1) cap)) own3 (fun k hk => Below.heap_setCell _ _ _ _ (by simp [Value.ownBlock] at hk; subst hk; exact hgn))
  rw [flat_snoc]
  simpa using hh
theorem Nodes.push {B nb g g1 cap n : Nat} {K : ByteArray} {kv : Value} {us : List Tr} {l : List Rx} {u : Tr} {x : Rx} {wo W w3 : World} (h : Nodes wo (NS B nb kv) us l) (hr : RW B nb K kv us wo) (hc : Chg (· = g) wo W) (hg : g < B) (hn : B < nb)
    (hu : NV W (fun k => wo.heap.size ≤ k) u x) (hgr : W.grownBy w3 kv.ownBlock) (hor : kv.ownBlock = some g1 ∨ g1 = W.heap.size) (v : Value) :
    Nodes (w3.setCell ⟨nb, 2, none⟩ v) (NS B nb (.slice (some ⟨g1, 0, none⟩) n cap)) (us ++ [u]) (l ++ [x]) := by
  have hnl : nb < wo.heap.size := hr.box.lt
  have hol : ∀ k, kv.ownBlock = some k → k < wo.heap.size := fun k hk => (hr.own.lt k hk).2
  refine Nodes.snoc (h.frame fun k hk hS => ⟨?_, hS.1, hS.2.1, ?_⟩) (hu.frame fun k hk hS => ⟨?_, by omega, by omega, ?_⟩)
  · rw [Below.heap_setCell _ _ _ _ hS.2.1, hgr.block k (Nat.lt_of_lt_of_le hk hc.size) hS.2.2, hc.block k hk (by have := hS.1; omega)]
  · intro e
    simp only [Value.ownBlock, Option.some.injEq] at e
    subst e
    rcases hor with e | e
    · exact hS.2.2 e.symm
    · have := hc.size; omega
  · rw [Below.heap_setCell _ _ _ _ (show k ≠ nb by omega), hgr.block k hk (fun e => by have := hol k e.symm; omega)]
  · intro e
    simp only [Value.ownBlock, Option.some.injEq] at e
    subst e
    rcases hor with e | e
    · have := hol _ e; omega
    · omega
/-- A sign behind a part. -/
theorem NV.sign {w : World} {S : Nat → Prop} {u : Tr} {x y : Rx} {gs c : Nat} (hu : NV w S u y) (hg : w.heap[gs]? = some (.cells #[.string u.1, u.2.1, u.2.2] 50 (0, 0))) (hS : S gs) (hk : kidsOf x = [y]) (hx : ∀ P, x ≠ .byte P) (hc : 1 ≤ c) {K : ByteArray} (hK : K = kname x) :
    NV w S (K, .slice none 0 0, .slice (some ⟨gs, 0, none⟩) 1 c) x := by
  subst hK
  refine .mk x _ _ [u] ⟨_, _, _, rfl⟩ ⟨_, _, _, rfl⟩ (fun P e => absurd e (hx P)) (by rw [hk]; rfl) (.inr ⟨gs, c, _, rfl, hS, hc, hg, fun i v h => ?_⟩) (fun i v z h h' => ?_)
  · match i, h with
    | 0, h => simp at h; subst h; exact ⟨rfl, rfl, rfl⟩
  · rw [hk] at h'
    match i, h, h' with
    | 0, h, h' => simp at h h'; subst h; subst h'; exact hu
/-- A node that is made. -/
theorem RW.done {B nb : Nat} {K : ByteArray} {kv : Value} {us : List Tr} {w : World} {l : List Rx} {x : Rx} (h : RW B nb K kv us w) (hn : Nodes w (NS B nb kv) us l) (hk : kidsOf x = l) (hx : ∀ P, x ≠ .byte P) (hK : K = kname x) (hn2 : B < nb) : NV w (fun k => B < k) (K, .slice none 0 0, kv) x := by
  subst hK
  refine .mk x _ _ us ⟨_, _, _, rfl⟩ h.isSl (fun P e => absurd e (hx P)) (by rw [hk]; exact hn.1) ?_ (fun i v z h1 h2 => (hn.2 i v z h1 (by rw [← hk]; exact h2)).frame fun k hk hS => ⟨rfl, hS.1⟩)
  rcases h.own.2 with ⟨hv, h0⟩ | ⟨g, cap, cur, hv, hB, hg, h1, h2, h3, h4⟩
  · exact .inl ⟨hv, List.length_eq_zero_iff.1 h0⟩
  · refine .inr ⟨g, cap, cur, hv, ?_, h1, hg, fun i u hi => ?_⟩
    · have := h.kB
      rw [hv] at this
      simp [Value.ownBlock] at this
      omega
    · have hil := (List.getElem?_eq_some_iff.1 hi).1
      obtain ⟨e0, e1, e2⟩ := flat_get us i u hi
      have hget : ∀ j, j < us.length * 3 → cur[j]? = (flat us)[j]? := fun j hj => by
        rw [← h4, List.getElem?_take_of_lt hj]; simp
      exact ⟨(hget _ (by omega)).trans e0, (hget _ (by omega)).trans e1, (hget _ (by omega)).trans e2⟩
theorem Tryd.infoNode : (Tryd.prog.info? 50).map (fun i => (i.zero, i.size, i.bytes)) = some (some (.agg #[.string ⟨#[]⟩, .slice none 0 0, .slice none 0 0]), 3, 64) := by kernel_rfl
theorem news3 {u : Value} {K : ByteArray} {h k : Value} (hh : IsSl h) (hk : IsSl k) (hu : u ∈ [Value.string K, h, k]) : u.oneCell' = true := by
  simp only [List.mem_cons, List.not_mem_nil, or_false] at hu
  rcases hu with rfl | rfl | rfl
  · rfl
  · exact hh.one
  · exact hk.one
end Go.Proofs.YtmlmnckhiianhaaDoor
