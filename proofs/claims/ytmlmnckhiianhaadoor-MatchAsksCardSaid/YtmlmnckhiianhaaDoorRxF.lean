/- Rows, and rows with bars between, walked. -/
import Derived.Test.YtmlmnckhiianhaaDoorRxE
import Derived.Deep.RegionLaw
import Derived.Test.YtmlmnckhiianhaaDoorRxP
namespace Go.Proofs.YtmlmnckhiianhaaDoor
open Go.RowKit
set_option linter.unusedVariables false
set_option linter.unusedSimpArgs false

theorem Tryd.infoPtr : (Tryd.prog.info? 81).map (fun i => (i.zero, i.size, i.bytes)) = some (some (.pointer none), 1, 8) := by kernel_rfl

theorem Chg.grownBy {w w' : World} {g : Nat} (h : Chg (· = g) w w') : w.grownBy w' (some g) :=
  ⟨h.os, h.tape, h.output, h.size, fun k hk hn => h.block k hk (by simpa using hn)⟩
theorem own_ne {w : World} {base : Nat} {e : TypeId} {size : Nat} {v : Value} {n : Nat} {xs : List Value} (h : w.ownsRow base e size v n xs) {g : Nat} (hg : g < base) : v.ownBlock = none ∨ v.ownBlock ≠ some g := by
  right
  intro e
  have := (h.lt g e).1
  omega

theorem own_some {w : World} {base : Nat} {e : TypeId} {size : Nat} {v : Value} {n : Nat} {xs : List Value} (h : w.ownsRow base e size v n xs) {g : Nat} (hg : g < base) : some g ≠ v.ownBlock := by
  intro e
  have := (h.lt g e.symm).1
  omega
theorem times_ok (g : Nat) (s : ByteArray) (i : Nat) (deep : Int) (f : Nat → Except Nat (Rx × Nat)) (w : World) (hs : s.size ≤ 64) (hi : i < s.size) (hp : PS w g s i deep 0) (HF : Rec g s deep f) {x : Rx} {j : Nat} (h : Rx.pTimes f (bys s) i = .ok (x, j)) :
    Calls Tryd.prog 65 #[.pointer (some ⟨g, 0, none⟩)] w fun e w' => ∃ b, e = .returned (.pointer (some ⟨b, 0, none⟩)) ∧ At w' (fun k => w.heap.size ≤ k) b x ∧ PS w' g s (j : Nat) deep 0 ∧ j ≤ s.size ∧ Chg (· = g) w w' :=
  (times_calls g s i deep f w hs hi hp HF).mono fun e w' hr => by rw [h] at hr; obtain ⟨hc, b, a1, a2, a3, a4⟩ := hr; exact ⟨b, a1, a2, a3, a4, hc⟩
theorem times_err (g : Nat) (s : ByteArray) (i : Nat) (deep : Int) (f : Nat → Except Nat (Rx × Nat)) (w : World) (hs : s.size ≤ 64) (hi : i < s.size) (hp : PS w g s i deep 0) (HF : Rec g s deep f) {er : Nat} (h : Rx.pTimes f (bys s) i = .error er) :
    Calls Tryd.prog 65 #[.pointer (some ⟨g, 0, none⟩)] w fun e w' => ∃ q d, e = .returned (.pointer q) ∧ PS w' g s s.size d er ∧ er ≠ 0 ∧ Chg (· = g) w w' :=
  (times_calls g s i deep f w hs hi hp HF).mono fun e w' hr => by rw [h] at hr; obtain ⟨hc, ⟨q, a1⟩, ⟨d, a2⟩, a3⟩ := hr; exact ⟨q, d, a1, a2, a3, hc⟩

def mkOf (c : List Rx → Rx) : Except Nat (List Rx × Nat) → Except Nat (Rx × Nat)
  | .error e => .error e
  | .ok (l, j) => .ok (c l, j)
theorem pRow_eq (f : Nat → Except Nat (Rx × Nat)) (t : List Nat) (i : Nat) : Rx.pRow f t i = mkOf .row (Rx.pParts f t (t.length + 1) i []) := by
  unfold Rx.pRow mkOf; rfl

/-- A part whose list of parts grows: block n0 of kind k, the list v. -/
structure Grow (w0 w : World) (g n0 : Nat) (k : Int) (v : Value) (bs : List Nat) (l : List Rx) : Prop where
  nb : NB w n0 k (fun _ => 0) v
  own : w.ownsRow w0.heap.size 81 1 v bs.length (bs.map fun b => .pointer (some ⟨b, 0, none⟩))
  len : bs.length = l.length
  glt : g < w0.heap.size
  nle : w0.heap.size ≤ n0
  nne : some n0 ≠ v.ownBlock
  kids : ∀ (i b : Nat) (x : Rx), bs[i]? = some b → l[i]? = some x → At w (fun m => w0.heap.size ≤ m ∧ m ≠ n0 ∧ some m ≠ v.ownBlock) b x

/-- A part more. -/
theorem Grow.push {w0 wo w2 w3 : World} {g n0 : Nat} {k : Int} {v : Value} {bs : List Nat} {l : List Rx} {b2 : Nat} {x : Rx} {g1 cap : Nat} {ob : Obj} (hG : Grow w0 wo g n0 k v bs l) (hc : Chg (· = g) wo w2) (hat : At w2 (fun m => wo.heap.size ≤ m) b2 x)
    (hown : w3.ownsRow w0.heap.size 81 1 (.slice (some ⟨g1, 0, none⟩) (bs.length + 1) cap) (bs.length + 1) ((bs.map fun b => .pointer (some ⟨b, 0, none⟩)) ++ [.pointer (some ⟨b2, 0, none⟩)]))
    (hgr : (w2.alloc ob).grownBy w3 v.ownBlock) (hor : v.ownBlock = some g1 ∨ g1 = (w2.alloc ob).heap.size) (hsz : w0.heap.size ≤ wo.heap.size) :
    Grow w0 (w3.setCell ⟨n0, 5, none⟩ (.slice (some ⟨g1, 0, none⟩) (bs.length + 1) cap)) g n0 k (.slice (some ⟨g1, 0, none⟩) (bs.length + 1) cap) (bs ++ [b2]) (l ++ [x]) := by
  have hn2 : n0 < w2.heap.size := Nat.lt_of_lt_of_le hG.nb.lt hc.size
  have hng : n0 ≠ g := by have := hG.nle; have := hG.glt; omega
  have hg1 : g1 ≠ n0 := by
    rcases hor with h | h
    · intro e; subst e; exact hG.nne h.symm
    · simp at h; omega
  have hgr1 : ∀ m, m < w2.heap.size → some m ≠ v.ownBlock → some m ≠ some g1 := by
    intro m hm hne e
    injection e with e
    subst e
    rcases hor with h | h
    · exact hne h.symm
    · simp at h; omega
  have hheap : ∀ m, m < w2.heap.size → some m ≠ v.ownBlock → m ≠ n0 → (w3.setCell ⟨n0, 5, none⟩ (.slice (some ⟨g1, 0, none⟩) (bs.length + 1) cap)).heap[m]? = w2.heap[m]? := by
    intro m hm hne hmn
    rw [Below.heap_setCell _ _ _ _ hmn, hgr.block m (by simp; omega) hne, Below.heap_alloc _ _ _ hm]
  refine ⟨NB.kids (show NB w3 n0 k (fun _ => 0) v from blk_grown (blk_alloc (hG.nb.chg hc hng) _) hgr hG.nne) _, ?_, by simp [hG.len], hG.glt, hG.nle, by simpa [Value.ownBlock] using hg1.symm, ?_⟩
  · have h1 : w3.ownsRow w0.heap.size 81 1 (.slice (some ⟨g1, 0, none⟩) (bs.length + 1) cap) (bs ++ [b2]).length ((bs ++ [b2]).map fun b => .pointer (some ⟨b, 0, none⟩)) := by simpa using hown
    have hh : (w3.setCell ⟨n0, 5, none⟩ (.slice (some ⟨g1, 0, none⟩) (bs.length + 1) cap)).heap[g1]? = w3.heap[g1]? := Below.heap_setCell _ _ _ _ hg1
    obtain ⟨h2, h3⟩ := h1
    refine ⟨h2, ?_⟩
    rcases h3 with h3 | ⟨g', cap', cur, hv, hg', hcur, rest⟩
    · exact .inl h3
    · injection hv with e1 e2 e3
      injection e1 with e1
      injection e1 with e1
      subst e1
      exact .inr ⟨_, cap', cur, by rw [e3, e2], hg', hh.trans hcur, rest⟩
  · intro i b y hb hy
    by_cases hi : i < bs.length
    · rw [List.getElem?_append_left hi] at hb
      rw [List.getElem?_append_left (by rw [← hG.len]; exact hi)] at hy
      refine (hG.kids i b y hb hy).frame fun m hm hS => ⟨?_, hS.1, hS.2.1, ?_⟩
      · have hm2 : m < w2.heap.size := Nat.lt_of_lt_of_le hm hc.size
        have hmg : ¬ m = g := by have := hG.glt; omega
        rw [hheap m hm2 hS.2.2 hS.2.1, hc.block m hm hmg]
      · exact hgr1 m (Nat.lt_of_lt_of_le hm hc.size) hS.2.2
    · have hil : i = bs.length := by
        have := (List.getElem?_eq_some_iff.1 hb).1
        simp at this; omega
      subst hil
      rw [List.getElem?_append_right (Nat.le_refl _)] at hb
      rw [hG.len, List.getElem?_append_right (Nat.le_refl _)] at hy
      simp at hb hy
      subst hb; subst hy
      refine hat.frame fun m hm hS => ?_
      have hmn : m ≠ n0 := by have := hG.nb.lt; omega
      have hmo : some m ≠ v.ownBlock := by
        intro e
        have := (hG.own.lt m e.symm).2
        omega
      exact ⟨hheap m hm hmo hmn, by omega, hmn, hgr1 m hm hmo⟩
/-- A part whose list has grown is a part. -/
theorem Grow.at {w0 w : World} {g n0 : Nat} {v : Value} {bs : List Nat} {l : List Rx} (c : List Rx → Rx) (k : Int) (hG : Grow w0 w g n0 k v bs l) (hc : kidsOf (c l) = l) (hk : kindOf (c l) = k) (hb : ∀ P, c l ≠ .byte P) : At w (fun m => w0.heap.size ≤ m) n0 (c l) := by
  refine .mk n0 _ (fun _ => 0) v bs hG.nle (hk ▸ hG.nb) (fun P e => absurd e (hb P)) (by rw [hc, hG.len]) ?_ ?_
  · rcases hG.own.2 with ⟨h1, h2⟩ | ⟨g', cap, cur, hv, hg', hcur, hn, _, _, ht⟩
    · exact .inl ⟨h1, List.eq_nil_of_length_eq_zero h2⟩
    · refine .inr ⟨g', cap, hv, hg', hn, cur, hcur, fun i b' hi => ?_⟩
      have h := congrArg (fun l => l[i]?) ht
      simp only [List.getElem?_take, List.getElem?_map, hi, Option.map_some] at h
      have hil := (List.getElem?_eq_some_iff.1 hi).1
      rw [if_pos (by omega)] at h
      simpa using h
  · intro i b' y hi hy
    rw [hc] at hy
    exact (hG.kids i b' y hi hy).frame fun m hm hS => ⟨rfl, hS.1⟩
theorem Grow.frame {w0 w w' : World} {g n0 : Nat} {k : Int} {v : Value} {bs : List Nat} {l : List Rx} (hG : Grow w0 w g n0 k v bs l) (h : ∀ m, m < w.heap.size → w0.heap.size ≤ m → w'.heap[m]? = w.heap[m]?) : Grow w0 w' g n0 k v bs l := by
  refine ⟨(h _ hG.nb.lt hG.nle).trans hG.nb, ⟨hG.own.1, ?_⟩, hG.len, hG.glt, hG.nle, hG.nne, fun i b x hb hx => (hG.kids i b x hb hx).frame fun m hm hS => ⟨h m hm hS.1, hS⟩⟩
  rcases hG.own.2 with h3 | ⟨g', cap', cur, hv, hg', hcur, rest⟩
  · exact .inl h3
  · exact .inr ⟨g', cap', cur, hv, hg', (h g' (blk_lt hcur) hg').trans hcur, rest⟩

set_option maxHeartbeats 4000000 in
theorem row_calls (g : Nat) (s : ByteArray) (i : Nat) (deep : Int) (f : Nat → Except Nat (Rx × Nat)) (w : World) (hs : s.size ≤ 64) (hi : i ≤ s.size) (hp : PS w g s i deep 0) (HF : Rec g s deep f) (hgood : Rx.Good f) :
    Calls Tryd.prog 52 #[.pointer (some ⟨g, 0, none⟩)] w (PRes g s deep w (Rx.pRow f (bys s) i)) := by
  have hg := hp.lt
  obtain ⟨i0, hinf, hz0, hz1, hz2⟩ := info_parts Tryd.infoPtr
  obtain ⟨R, hR0⟩ : ∃ R, Rx.pParts f (bys s) ((bys s).length + 1) i [] = R := ⟨_, rfl⟩
  have hR : Rx.pRow f (bys s) i = mkOf .row R := by rw [← hR0, pRow_eq]
  rw [hR]
  clear hR
  rw [bys_len] at hR0
  have HR := Lib.hid hR0
  clear hR0
  go_enter Tryd.func52, Tryd.ntmps52
  go_wp2
  go_loopg [] (s.size + 1) (fun k wr => Chg (· = g) w wr ∧
    ((∃ (j : Nat) (v : Value) (bs : List Nat) (l : List Rx), Hid (Grow w wr g w.heap.size 1 v bs l) ∧ PS wr g s (j : Nat) deep 0 ∧ j ≤ s.size ∧ l.length ≤ j ∧ s.size < j + k ∧ Hid (Rx.pParts f (bys s) k j l = R)) ∨
     ∃ (er : Nat) (d : Int), PS wr g s s.size d er ∧ er ≠ 0 ∧ 0 < k ∧ Hid (R = .error er)))
  case atStart => exact ⟨(Chg.refl _ w).alloc _, .inl ⟨i, _, [], [], Lib.hid ⟨NB.new0 w 1, World.ownsRow_nil _ _ _ _, rfl, hg, Nat.le_refl _, by simp [Value.ownBlock], fun i b x h => by simp at h⟩, hp.alloc _, hi, by simp, by omega, HR⟩⟩
  case round =>
    obtain ⟨hc, hm⟩ := hrel
    obtain ⟨wo, rfl⟩ : ∃ m : World, m = wr := ⟨_, rfl⟩
    clear hp HR
    rcases hm with ⟨j, v, bs, l, hG, hp2, hj, hlj, hfu, hL⟩ | ⟨er, d, hp2, hne, hgk, hL⟩
    · obtain ⟨k0, rfl⟩ : ∃ m : Nat, m + 1 = gk := ⟨gk - 1, by omega⟩
      have a0 := hp2.c0
      have a1 := hp2.c1
      by_cases hlt : j < s.size
      · have hlt' : (j : Int) < s.size := by omega
        by_cases hc1 : (bys s)[j]? = some 124
        · have hk1 : pk s j 124 = true := by simp [pk, hc1]
          have HC := Lib.hid (show ¬ (j < s.size ∧ (bys s)[j]? ≠ some 124 ∧ (bys s)[j]? ≠ some 41) from fun h => h.2.1 hc1)
          clear hc1
          go_wp2
          go_quiet ((go_at_call 53; with_reducible exact Calls.quiet_of (peek124 g s j deep 0 _ hs (hp2.drewN _))))
          go_wp2
          go_ret
          have hR2 : mkOf .row R = .ok (.row l, j) := by rw [← hL.out]; simp only [Rx.pParts, bys_len]; rw [if_neg HC.out]; rfl
          rw [hR2]
          exact ⟨hc.drewN _, _, rfl, (Grow.at .row 1 hG.out rfl rfl (fun P e => by cases e)).frame (fun m hm hS => ⟨rfl, hS⟩), hp2.drewN _, hj⟩
        by_cases hc2 : (bys s)[j]? = some 41
        · have hk1 : pk s j 124 = false := by simp [pk, hc1]
          have hk2 : pk s j 41 = true := by simp [pk, hc2]
          have HC := Lib.hid (show ¬ (j < s.size ∧ (bys s)[j]? ≠ some 124 ∧ (bys s)[j]? ≠ some 41) from fun h => h.2.2 hc2)
          clear hc1 hc2
          go_wp2
          go_quiet ((first | (go_at_call 53; with_reducible exact Calls.quiet_of (peek124 g s j deep 0 _ hs (hp2.drewN _))) | (go_at_call 53; with_reducible exact Calls.quiet_of (peek41 g s j deep 0 _ hs (hp2.drewN _)))))
          go_wp2
          go_ret
          have hR2 : mkOf .row R = .ok (.row l, j) := by rw [← hL.out]; simp only [Rx.pParts, bys_len]; rw [if_neg HC.out]; rfl
          rw [hR2]
          exact ⟨hc.drewN _, _, rfl, (Grow.at .row 1 hG.out rfl rfl (fun P e => by cases e)).frame (fun m hm hS => ⟨rfl, hS⟩), hp2.drewN _, hj⟩
        · have hk1 : pk s j 124 = false := by simp [pk, hc1]
          have hk2 : pk s j 41 = false := by simp [pk, hc2]
          have hw5 := hG.out.nb.w5
          have hf5 := hG.out.nb.f 5
          have HC := Lib.hid (show j < s.size ∧ (bys s)[j]? ≠ some 124 ∧ (bys s)[j]? ≠ some 41 from ⟨hlt, hc1, hc2⟩)
          clear hc1 hc2
          cases hf : Rx.pTimes f (bys s) j with
          | error er =>
            have HFF := Lib.hid hf
            clear hf
            go_wp2
            go_quiet ((first | (go_at_call 53; with_reducible exact Calls.quiet_of (peek124 g s j deep 0 _ hs (hp2.drewN _))) | (go_at_call 53; with_reducible exact Calls.quiet_of (peek41 g s j deep 0 _ hs (hp2.drewN _)))))
            go_wp2
            go_region_law (first | (go_simp; go_at_call 65; ((with_reducible refine (times_err g s j deep f _ hs hlt (hp2.drewN _) HF HFF.out).mono ?_); rintro e w2 ⟨q2, d2, rfl, hp_w2, hne, hc_w2⟩); have q2n := NB.chg (hG.out.nb.drewN _) hc_w2 (by first | omega | (simp; omega)); have q2w := q2n.w5; have q2z := q2n.lt) | (refine step_append_lies _ rfl (.tmp 30) (.tmp 33) 106 rfl w.heap.size 81 i0 (.pointer none) 1 8 Tryd.underlying106 hinf hz0 hz1 hz2 rfl (by decide) v bs.length (bs.map fun b => .pointer (some ⟨b, 0, none⟩)) rfl (by exact (hG.out.own.kept (w := wo.drewN _) hc_w2.grownBy (own_ne hG.out.own hg)).alloc _) ⟨_, 0, none⟩ 1 1 [.pointer q2] rfl rfl (World.news_of_block (blk_new _ _)) (fun u hu => by simp at hu; subst hu; rfl) (by decide) (by have := hG.out.len; unfold maxLen; omega) (by have := hG.out.len; omega) (by have := hc_w2.size; have := blk_lt hG.out.nb; simp at *; omega) _ rfl (fun g1 cap w3 hown3 hgr3 hor3 hlt3 => ?_); have hnb3 : NB w3 w.heap.size 1 (fun _ => 0) v := blk_grown (blk_alloc ((hG.out.nb.drewN _).chg hc_w2 (by first | omega | (simp; omega))) _) hgr3 hG.out.nne; have q5 := hnb3.w5; have qf5 := hnb3.f 5))
            all_goals
              go_wp2
              go_roundg k0
              case measure => omega
              case rel =>
                refine ⟨?_, .inr ⟨er, d2, ?_, hne, by omega, ?_⟩⟩
                · exact ((((hc.drewN _).trans hc_w2).alloc _).grown hgr3 (fun k hk => .inr (hG.out.own.lt k hk).1)).setCell (.inr (Nat.le_refl _)) _
                · exact PS.far (show PS w3 g s s.size d2 er from blk_grown (blk_alloc hp_w2 _) hgr3 (own_some hG.out.own hg)) (by first | omega | (simp; omega)) _
                · have h := hL.out; simp only [Rx.pParts, bys_len] at h; rw [if_pos HC.out] at h; simp only [HFF.out] at h; exact h.symm
          | ok xj =>
            obtain ⟨x, j1⟩ := xj
            have hadv := (Rx.pTimes_adv hgood hf).1
            have HFF := Lib.hid hf
            clear hf
            go_wp2
            go_quiet ((first | (go_at_call 53; with_reducible exact Calls.quiet_of (peek124 g s j deep 0 _ hs (hp2.drewN _))) | (go_at_call 53; with_reducible exact Calls.quiet_of (peek41 g s j deep 0 _ hs (hp2.drewN _)))))
            go_wp2
            go_region_law (first | (go_simp; go_at_call 65; ((with_reducible refine (times_ok g s j deep f _ hs hlt (hp2.drewN _) HF HFF.out).mono ?_); rintro e w2 ⟨b2, rfl, hat, hp_w2, hj2, hc_w2⟩); have q2n := NB.chg (hG.out.nb.drewN _) hc_w2 (by first | omega | (simp; omega)); have q2w := q2n.w5; have q2z := q2n.lt) | (refine step_append_lies _ rfl (.tmp 30) (.tmp 33) 106 rfl w.heap.size 81 i0 (.pointer none) 1 8 Tryd.underlying106 hinf hz0 hz1 hz2 rfl (by decide) v bs.length (bs.map fun b => .pointer (some ⟨b, 0, none⟩)) rfl (by exact (hG.out.own.kept (w := wo.drewN _) hc_w2.grownBy (own_ne hG.out.own hg)).alloc _) ⟨_, 0, none⟩ 1 1 [.pointer (some ⟨b2, 0, none⟩)] rfl rfl (World.news_of_block (blk_new _ _)) (fun u hu => by simp at hu; subst hu; rfl) (by decide) (by have := hG.out.len; unfold maxLen; omega) (by have := hG.out.len; omega) (by have := hc_w2.size; have := blk_lt hG.out.nb; simp at *; omega) _ rfl (fun g1 cap w3 hown3 hgr3 hor3 hlt3 => ?_); have hnb3 : NB w3 w.heap.size 1 (fun _ => 0) v := blk_grown (blk_alloc ((hG.out.nb.drewN _).chg hc_w2 (by first | omega | (simp; omega))) _) hgr3 hG.out.nne; have q5 := hnb3.w5; have qf5 := hnb3.f 5))
            all_goals
              go_wp2
              go_roundg k0
              case measure => omega
              case rel =>
                have hcw := ((Chg.refl (· = g) wo).drewN _).trans hc_w2
                have hsz := hc.size
                have hP := Grow.push hG.out hcw (hat.frame fun m hm hS => ⟨rfl, hS⟩) (by simpa using hown3) hgr3 hor3 hsz
                refine ⟨?_, .inl ⟨j1, _, bs ++ [b2], l ++ [x], Lib.hid hP, ?_, hj2, by simp; omega, by omega, ?_⟩⟩
                · exact ((((hc.drewN _).trans hc_w2).alloc _).grown hgr3 (fun k hk => .inr (hG.out.own.lt k hk).1)).setCell (.inr (Nat.le_refl _)) _
                · exact PS.far (show PS w3 g s j1 deep 0 from blk_grown (blk_alloc hp_w2 _) hgr3 (own_some hG.out.own hg)) (by first | omega | (simp; omega)) _
                · have h := hL.out; simp only [Rx.pParts, bys_len] at h; rw [if_pos HC.out] at h; simp only [HFF.out] at h; exact h
      · have hge : decide (j < s.size) = false := decide_eq_false hlt
        have HC := Lib.hid (show ¬ (j < s.size ∧ (bys s)[j]? ≠ some 124 ∧ (bys s)[j]? ≠ some 41) from fun h => hlt h.1)
        clear hlt
        go_wp2
        go_quiet (fail)
        go_wp2
        go_ret
        have hR2 : mkOf .row R = .ok (.row l, j) := by rw [← hL.out]; simp only [Rx.pParts, bys_len]; rw [if_neg HC.out]; rfl
        rw [hR2]
        exact ⟨hc.drewN _, _, rfl, (Grow.at .row 1 hG.out rfl rfl (fun P e => by cases e)).frame (fun m hm hS => ⟨rfl, hS⟩), hp2.drewN _, hj⟩
    · have a0 := hp2.c0
      have a1 := hp2.c1
      have hge : decide ((s.size : Int) < s.size) = false := decide_eq_false (by omega)
      go_wp2
      go_quiet (fail)
      go_wp2
      go_ret
      rw [hL.out]
      exact ⟨hc.drewN _, ⟨_, rfl⟩, ⟨d, hp2.drewN _⟩, hne⟩
end Go.Proofs.YtmlmnckhiianhaaDoor
