/- States of an automaton: how they lie in memory; 'add'. -/
import Derived.Test.YtmlmnckhiianhaaDoorRxG
import Derived.Test.YtmlmnckhiianhaaDoorRxL
namespace Go.Proofs.YtmlmnckhiianhaaDoor
set_option maxRecDepth 100000
open Go.RowKit
set_option linter.unusedVariables false
set_option linter.unusedSimpArgs false

/-- Numbers of states in memory. -/
def Nx (w : World) (S : Nat → Prop) (nx : Value) (l : List Nat) : Prop :=
  (nx = .slice none 0 0 ∧ l = []) ∨ ∃ (g c : Nat) (arr : Array Value), nx = .slice (some ⟨g, 0, none⟩) l.length c ∧ S g ∧ l.length ≤ c ∧ w.heap[g]? = some (.cells arr 3 (0, 0)) ∧ ∀ (i n : Nat), l[i]? = some n → arr[i]? = some (.int .i64 (n : Int))
theorem Nx.frame {w w' : World} {S S' : Nat → Prop} {nx : Value} {l : List Nat} (h : Nx w S nx l) (hh : ∀ k, k < w.heap.size → S k → w'.heap[k]? = w.heap[k]? ∧ S' k) : Nx w' S' nx l := by
  rcases h with h | ⟨g, c, arr, h1, h2, h3, h4, h5⟩
  · exact .inl h
  · exact .inr ⟨g, c, arr, h1, (hh g (blk_lt h4) h2).2, h3, (hh g (blk_lt h4) h2).1.trans h4, h5⟩
/-- State number i of a list of cells. -/
def StX (w : World) (S : Nat → Prop) (st : St) (xs : List Value) (i : Nat) : Prop :=
  ∃ (q : Nat → Int) (nx : Value), xs[6 * i]? = some (.int .u64 (q 0)) ∧ xs[6 * i + 1]? = some (.int .u64 (q 1)) ∧ xs[6 * i + 2]? = some (.int .u64 (q 2)) ∧ xs[6 * i + 3]? = some (.int .u64 (q 3)) ∧ xs[6 * i + 4]? = some (.bool st.eat) ∧ xs[6 * i + 5]? = some nx ∧ SetV q st.set ∧ Nx w S nx st.next
theorem StX.frame {w w' : World} {S S' : Nat → Prop} {st : St} {xs xs' : List Value} {i : Nat} (h : StX w S st xs i) (hh : ∀ k, k < w.heap.size → S k → w'.heap[k]? = w.heap[k]? ∧ S' k) (hx : ∀ j, j < 6 * i + 6 → 6 * i ≤ j → xs'[j]? = xs[j]?) : StX w' S' st xs' i := by
  obtain ⟨q, nx, h0, h1, h2, h3, h4, h5, h6, h7⟩ := h
  exact ⟨q, nx, (hx _ (by omega) (by omega)).trans h0, (hx _ (by omega) (by omega)).trans h1, (hx _ (by omega) (by omega)).trans h2, (hx _ (by omega) (by omega)).trans h3, (hx _ (by omega) (by omega)).trans h4, (hx _ (by omega) (by omega)).trans h5, h6, h7.frame hh⟩

/-- An automaton in the making: its block r, its list v; all in blocks from B on. -/
structure Tab (w : World) (B r : Nat) (v : Value) (l : List St) (Av : Nat → Prop) : Prop where
  rb : w.heap[r]? = some (.cells #[v] 59 (0, 0))
  rB : B ≤ r
  rne : some r ≠ v.ownBlock
  own : ∃ xs, w.ownsRow B 89 6 v l.length xs ∧ ∀ (i : Nat) (st : St), l[i]? = some st → StX w (fun k => B ≤ k ∧ k ≠ r ∧ some k ≠ v.ownBlock ∧ Av k) st xs i

theorem Tab.c0 {w : World} {B r : Nat} {v : Value} {l : List St} {Av : Nat → Prop} (h : Tab w B r v l Av) : w.cell? ⟨r, 0, none⟩ = some v := (blk_cell h.rb).trans rfl
theorem Tab.f {w : World} {B r : Nat} {v : Value} {l : List St} {Av : Nat → Prop} (h : Tab w B r v l Av) : w.frozen? ⟨r, 0, none⟩ = false := blk_free h.rb
theorem Tab.lt {w : World} {B r : Nat} {v : Value} {l : List St} {Av : Nat → Prop} (h : Tab w B r v l Av) : r < w.heap.size := blk_lt h.rb
theorem ownsRow_of {w w' : World} {B : Nat} {e : TypeId} {sz : Nat} {v : Value} {n : Nat} {xs : List Value} (h : w.ownsRow B e sz v n xs) (hh : ∀ k, v.ownBlock = some k → w'.heap[k]? = w.heap[k]?) : w'.ownsRow B e sz v n xs := by
  refine ⟨h.1, ?_⟩
  rcases h.2 with h3 | ⟨g', cap', cur, hv, hg', hcur, rest⟩
  · exact .inl h3
  · exact .inr ⟨g', cap', cur, hv, hg', (hh g' (by rw [hv]; rfl)).trans hcur, rest⟩
theorem Tab.frame {w w' : World} {B r : Nat} {v : Value} {l : List St} {Av : Nat → Prop} (h : Tab w B r v l Av) (hh : ∀ k, k < w.heap.size → B ≤ k → w'.heap[k]? = w.heap[k]?) : Tab w' B r v l Av := by
  obtain ⟨xs, h1, h2⟩ := h.own
  exact ⟨(hh r h.lt h.rB).trans h.rb, h.rB, h.rne, xs, ownsRow_of h1 (fun k hk => hh k (h1.lt k hk).2 (h1.lt k hk).1), fun i st hi => (h2 i st hi).frame (fun k hk hS => ⟨hh k hk hS.1, hS⟩) (fun j _ _ => rfl)⟩

/-- What may change of what was there when a state is laid. -/
def MayT (r : Nat) (v : Value) : Nat → Prop := fun k => k = r ∨ v.ownBlock = some k
def NewT (w : World) (v v' : Value) : Prop := ∀ k, v'.ownBlock = some k → v.ownBlock = some k ∨ w.heap.size ≤ k
theorem NewT.trans {w w1 : World} {v v1 v2 : Value} (h : NewT w v v1) (h2 : NewT w1 v1 v2) (hs : w.heap.size ≤ w1.heap.size) : NewT w v v2 := fun k hk => by
  rcases h2 k hk with h3 | h3
  · exact h k h3
  · right; omega
theorem chgT {w w1 w2 : World} {r : Nat} {v v1 : Value} (h : Chg (MayT r v) w w1) (h1 : NewT w v v1) (h2 : Chg (MayT r v1) w1 w2) : Chg (MayT r v) w w2 :=
  h.trans' h2 fun k hk hm => by
    rcases hm with rfl | hm
    · exact .inl rfl
    · rcases h1 k hm with h3 | h3
      · exact .inr h3
      · omega

theorem one6 {w : World} {S : Nat → Prop} {nx : Value} {l : List Nat} (h : Nx w S nx l) {a b c d : Int} {e : Bool} (u : Value) (hu : u ∈ [Value.int .u64 a, .int .u64 b, .int .u64 c, .int .u64 d, .bool e, nx]) : u.oneCell' = true := by
  simp only [List.mem_cons, List.not_mem_nil, or_false] at hu
  rcases hu with rfl | rfl | rfl | rfl | rfl | rfl
  · rfl
  · rfl
  · rfl
  · rfl
  · rfl
  · rcases h with ⟨rfl, _⟩ | ⟨g, c, arr, rfl, _⟩ <;> rfl
theorem Tab.c0of {w w3 : World} {B r : Nat} {v : Value} {l : List St} {Av : Nat → Prop} {o1 o2 : Obj} (h : Tab w B r v l Av) (hg : (World.alloc (World.alloc w o1).drew o2).grownBy w3 v.ownBlock) : w3.cell? ⟨r, 0, none⟩ = some v :=
  (blk_cell (blk_grown (blk_alloc (blk_drewN (n := 1) (blk_alloc h.rb _)) _) hg h.rne)).trans rfl
theorem Tab.fof {w w3 : World} {B r : Nat} {v : Value} {l : List St} {Av : Nat → Prop} {o1 o2 : Obj} (h : Tab w B r v l Av) (hg : (World.alloc (World.alloc w o1).drew o2).grownBy w3 v.ownBlock) : w3.frozen? ⟨r, 0, none⟩ = false :=
  blk_free (blk_grown (blk_alloc (blk_drewN (n := 1) (blk_alloc h.rb _)) _) hg h.rne)

theorem Tryd.infoState : (Tryd.prog.info? 89).map (fun i => (i.zero, i.size, i.bytes)) = some (some (.agg #[.int .u64 0, .int .u64 0, .int .u64 0, .int .u64 0, .bool false, .slice none 0 0]), 6, 64) := by kernel_rfl

/-- A state more at the end. -/
theorem Tab.push {w W w3 : World} {B r : Nat} {v : Value} {l : List St} {Av : Nat → Prop} {g1 cap : Nat} {xs : List Value} {q : Nat → Int} {st : St} {nx : Value} (h : Tab w B r v l Av) (hq : SetV q st.set) (hn : Nx w (fun k => B ≤ k ∧ k ≠ r ∧ some k ≠ v.ownBlock ∧ Av k) nx st.next)
    (hx : w.ownsRow B 89 6 v l.length xs) (hxs : ∀ (i : Nat) (st : St), l[i]? = some st → StX w (fun k => B ≤ k ∧ k ≠ r ∧ some k ≠ v.ownBlock ∧ Av k) st xs i)
    (hW : Below w.heap.size w W) (hown : w3.ownsRow B 89 6 (.slice (some ⟨g1, 0, none⟩) (l.length + 1) cap) (l.length + 1) (xs ++ [.int .u64 (q 0), .int .u64 (q 1), .int .u64 (q 2), .int .u64 (q 3), .bool st.eat, nx]))
    (hgr : W.grownBy w3 v.ownBlock) (hor : v.ownBlock = some g1 ∨ g1 = W.heap.size) :
    Tab (w3.setCell ⟨r, 0, none⟩ (.slice (some ⟨g1, 0, none⟩) (l.length + 1) cap)) B r (.slice (some ⟨g1, 0, none⟩) (l.length + 1) cap) (l ++ [st]) Av := by
  have hrW : r < W.heap.size := Nat.lt_of_lt_of_le h.lt hW.size
  have hg1 : g1 ≠ r := by
    rcases hor with e | e
    · intro e'; subst e'; exact h.rne e.symm
    · omega
  have hne1 : ∀ m, m < w.heap.size → some m ≠ v.ownBlock → some m ≠ some g1 := by
    intro m hm hne e
    injection e with e
    subst e
    rcases hor with e | e
    · exact hne e.symm
    · have := hW.size; omega
  have hheap : ∀ m, m < w.heap.size → some m ≠ v.ownBlock → m ≠ r → (w3.setCell ⟨r, 0, none⟩ (.slice (some ⟨g1, 0, none⟩) (l.length + 1) cap)).heap[m]? = w.heap[m]? := by
    intro m hm hne hmr
    rw [Below.heap_setCell _ _ _ _ hmr, hgr.block m (Nat.lt_of_lt_of_le hm hW.size) hne, hW.block m hm]
  have hrb3 : w3.heap[r]? = some (.cells #[v] 59 (0, 0)) := blk_grown ((hW.block r h.lt).trans h.rb) hgr h.rne
  have hxl : xs.length = l.length * 6 := hx.1
  have hS : ∀ k, k < w.heap.size → (B ≤ k ∧ k ≠ r ∧ some k ≠ v.ownBlock ∧ Av k) → (w3.setCell ⟨r, 0, none⟩ (.slice (some ⟨g1, 0, none⟩) (l.length + 1) cap)).heap[k]? = w.heap[k]? ∧ (B ≤ k ∧ k ≠ r ∧ some k ≠ (Value.slice (some ⟨g1, 0, none⟩) (l.length + 1) cap).ownBlock ∧ Av k) :=
    fun k hk hS => ⟨hheap k hk hS.2.2.1 hS.2.1, hS.1, hS.2.1, hne1 k hk hS.2.2.1, hS.2.2.2⟩
  refine ⟨blk_set hrb3 _, h.rB, by simpa [Value.ownBlock] using hg1.symm, xs ++ [.int .u64 (q 0), .int .u64 (q 1), .int .u64 (q 2), .int .u64 (q 3), .bool st.eat, nx], ?_, ?_⟩
  · have hh := ownsRow_of (w' := w3.setCell ⟨r, 0, none⟩ (.slice (some ⟨g1, 0, none⟩) (l.length + 1) cap)) hown (fun k hk => Below.heap_setCell _ _ _ _ (by simp [Value.ownBlock] at hk; subst hk; exact hg1))
    simpa using hh
  · intro i st' hi
    by_cases hil : i < l.length
    · rw [List.getElem?_append_left hil] at hi
      exact (hxs i st' hi).frame hS (fun j hj _ => List.getElem?_append_left (by omega))
    · have e : i = l.length := by
        have := (List.getElem?_eq_some_iff.1 hi).1
        simp at this; omega
      subst e
      rw [List.getElem?_append_right (Nat.le_refl _)] at hi
      simp at hi
      subst hi
      have hk : ∀ j, (xs ++ [.int .u64 (q 0), .int .u64 (q 1), .int .u64 (q 2), .int .u64 (q 3), .bool st.eat, nx])[6 * l.length + j]? = [Value.int .u64 (q 0), .int .u64 (q 1), .int .u64 (q 2), .int .u64 (q 3), .bool st.eat, nx][j]? := fun j => by
        rw [List.getElem?_append_right (by omega)]
        congr 1
        omega
      exact ⟨q, nx, hk 0, hk 1, hk 2, hk 3, hk 4, hk 5, hq, hn.frame hS⟩

set_option maxHeartbeats 2000000 in
theorem add_calls (B r : Nat) (v : Value) (l : List St) (Av : Nat → Prop) (q : Nat → Int) (st : St) (nx : Value) (w : World) (hT : Tab w B r v l Av) (hq : SetV q st.set) (hn : Nx w (fun k => B ≤ k ∧ k ≠ r ∧ some k ≠ v.ownBlock ∧ Av k) nx st.next) (hl : l.length ≤ 100000) :
    Calls Tryd.prog 38 #[.pointer (some ⟨r, 0, none⟩), .agg #[.int .u64 (q 0), .int .u64 (q 1), .int .u64 (q 2), .int .u64 (q 3), .bool st.eat, nx]] w fun e w' =>
      e = .returned (.int .i64 l.length) ∧ ∃ v', Tab w' B r v' (l ++ [st]) Av ∧ Chg (MayT r v) w w' ∧ NewT w v v' := by
  obtain ⟨i0, hinf, hz0, hz1, hz2⟩ := info_parts Tryd.infoState
  have c0 := hT.c0
  have f0 := hT.f
  have hlt := hT.lt
  have hrB := hT.rB
  obtain ⟨xs, hx1, hx2⟩ := hT.own
  have HT := Lib.hid hT
  have HQ := Lib.hid hq
  have HN := Lib.hid hn
  have HX := Lib.hid hx1
  have HX2 := Lib.hid hx2
  clear hT hq hn hx1 hx2
  go_enter Tryd.func38, Tryd.ntmps38
  go_wp2
  go_region_law (refine step_append_lies _ rfl (.tmp 9) (.tmp 11) 57 rfl B 89 i0 (.agg #[.int .u64 0, .int .u64 0, .int .u64 0, .int .u64 0, .bool false, .slice none 0 0]) 6 64 Tryd.underlying57 hinf hz0 hz1 hz2 rfl (by decide) v l.length xs rfl (by exact (HX.out.alloc _).alloc _) ⟨_, 0, none⟩ 1 1 [.int .u64 (q 0), .int .u64 (q 1), .int .u64 (q 2), .int .u64 (q 3), .bool st.eat, nx] rfl rfl (World.news_of_block (blk_new' _ _ _ (by simp))) (by intro u hu; exact one6 HN.out u hu) (by decide) (by unfold maxLen; omega) (by omega) (by simp; omega) _ rfl (fun g1 cap w3 hown3 hgr3 hor3 hlt3 => ?_); have q5 := Tab.c0of HT.out hgr3; have qf5 := Tab.fof HT.out hgr3)
  all_goals
    go_wp2
    go_ret
    have hown3' : w3.ownsRow B 89 6 (.slice (some ⟨g1, 0, none⟩) (l.length + 1) cap) (l.length + 1) (xs ++ [.int .u64 (q 0), .int .u64 (q 1), .int .u64 (q 2), .int .u64 (q 3), .bool st.eat, nx]) := hown3
    refine ⟨rfl, _, Tab.push HT.out HQ.out HN.out HX.out HX2.out ?_ hown3' hgr3 hor3, ?_⟩
    · exact (((Below.refl _ w).alloc (Nat.le_refl _) _).drew).alloc (by simp) _
    · refine ⟨(((((Chg.refl (MayT r v) w).alloc _).drew).alloc _).grown hgr3 (fun k hk => .inl (.inr hk))).setCell (.inl (.inl rfl)) _, fun k hk => ?_⟩
      simp [Value.ownBlock] at hk
      subst hk
      rcases hor3 with h | h
      · exact .inl h
      · right; simp at h; omega
end Go.Proofs.YtmlmnckhiianhaaDoor
