/- 'lay': a part's states are laid ahead of another one: memory facts, and the plain cases. -/
import Derived.Test.YtmlmnckhiianhaaDoorRxH
namespace Go.Proofs.YtmlmnckhiianhaaDoor
set_option maxRecDepth 100000
open Go.RowKit
set_option linter.unusedVariables false
set_option linter.unusedSimpArgs false

theorem Nx.one (w : World) {S : Nat → Prop} (t : Nat) (hS : S w.heap.size) : Nx (w.alloc (.cells #[.int .i64 (t : Int)] 3)) S (.slice (some ⟨w.heap.size, 0, none⟩) 1 1) [t] :=
  .inr ⟨_, 1, _, rfl, hS, Nat.le_refl _, blk_new w _, fun i n h => by
    match i, h with
    | 0, h => simp at h; subst h; rfl⟩
theorem Nx.two (w : World) {S : Nat → Prop} (t u : Nat) (hS : S w.heap.size) : Nx (w.alloc (.cells #[.int .i64 (t : Int), .int .i64 (u : Int)] 3)) S (.slice (some ⟨w.heap.size, 0, none⟩) 2 2) [t, u] :=
  .inr ⟨_, 2, _, rfl, hS, Nat.le_refl _, blk_new w _, fun i n h => by
    match i, h with
    | 0, h => simp at h; subst h; rfl
    | 1, h => simp at h; subst h; rfl⟩
theorem Nx.of_own {w : World} {S : Nat → Prop} {B : Nat} {v : Value} {l : List Nat} (h : w.ownsRow B 3 1 v l.length (l.map fun n : Nat => .int .i64 (n : Int))) (hS : ∀ k, v.ownBlock = some k → S k) : Nx w S v l := by
  rcases h.2 with ⟨h1, h2⟩ | ⟨g, c, arr, hv, hg, harr, hc, _, _, ht⟩
  · exact .inl ⟨h1, List.eq_nil_of_length_eq_zero h2⟩
  · refine .inr ⟨g, c, arr, hv, hS g (by rw [hv]; rfl), hc, harr, fun i n hi => ?_⟩
    have h := congrArg (fun l => l[i]?) ht
    simp only [List.getElem?_take, List.getElem?_map, hi, Option.map_some] at h
    have hil := (List.getElem?_eq_some_iff.1 hi).1
    rw [if_pos (by omega)] at h
    simpa using h

/-- The table behind new blocks. -/
theorem Tab.alloc {w : World} {B r : Nat} {v : Value} {l : List St} {Av : Nat → Prop} (h : Tab w B r v l Av) (o : Obj) : Tab (w.alloc o) B r v l Av := h.frame fun k hk _ => Below.heap_alloc w o k hk
theorem Tab.drewN {w : World} {B r : Nat} {v : Value} {l : List St} {Av : Nat → Prop} (h : Tab w B r v l Av) (n : Nat) : Tab (w.drewN n) B r v l Av := h.frame fun k hk _ => rfl
theorem Tab.may {w : World} {B r : Nat} {v : Value} {l : List St} {Av : Nat → Prop} (h : Tab w B r v l Av) {k : Nat} (hm : MayT r v k) : B ≤ k := by
  obtain ⟨xs, h1, _⟩ := h.own
  rcases hm with rfl | hm
  · exact h.rB
  · exact (h1.lt k hm).1
theorem At.may {w w' : World} {B r nb : Nat} {v : Value} {l : List St} {Av : Nat → Prop} {x : Rx} (h : At w (fun k => k < B) nb x) (hT : Tab w B r v l Av) (hc : Chg (MayT r v) w w') : At w' (fun k => k < B) nb x :=
  h.chg hc (fun k hk hS hM => by have := hT.may hM; omega) (fun k hk hS => hS)
/-- What a later state goes on with is set. -/
theorem Tab.setNext {w : World} {B r : Nat} {v : Value} {l : List St} {Av : Nat → Prop} {i : Nat} {nx : Value} {ns : List Nat} {st : St} (h : Tab w B r v l Av) (hi : l[i]? = some st) (hn : Nx w (fun k => B ≤ k ∧ k ≠ r ∧ some k ≠ v.ownBlock ∧ Av k) nx ns) {g c : Nat} (hv : v = .slice (some ⟨g, 0, none⟩) l.length c) :
    Tab (w.setCell ⟨g, 6 * i + 5, none⟩ nx) B r v (l.set i ⟨st.set, st.eat, ns⟩) Av := by
  obtain ⟨xs, h1, h2⟩ := h.own
  have hil := (List.getElem?_eq_some_iff.1 hi).1
  have hob : v.ownBlock = some g := by rw [hv]; rfl
  have hgr : g ≠ r := fun e => h.rne (by rw [hob, e])
  have hS : ∀ k, k < w.heap.size → (B ≤ k ∧ k ≠ r ∧ some k ≠ v.ownBlock ∧ Av k) → (w.setCell ⟨g, 6 * i + 5, none⟩ nx).heap[k]? = w.heap[k]? ∧ (B ≤ k ∧ k ≠ r ∧ some k ≠ v.ownBlock ∧ Av k) := fun k hk hS =>
    ⟨Below.heap_setCell _ _ _ _ (by show k ≠ g; intro e; exact hS.2.2.1 (by rw [hob, e])), hS⟩
  have hst : (w.setCell ⟨g, 6 * i + 5, none⟩ nx).ownsRow B 89 6 v l.length (xs.set (6 * i + 5) nx) := by
    subst hv
    exact (World.ownsRow.stored h1 (6 * i + 5) nx).1
  refine ⟨blk_set_far h.rb hgr.symm _, h.rB, h.rne, xs.set (6 * i + 5) nx, by simpa using hst, fun j st' hj => ?_⟩
  by_cases hij : j = i
  · subst hij
    rw [List.getElem?_set_self hil] at hj
    injection hj with hj
    subst hj
    obtain ⟨q, nx0, a0, a1, a2, a3, a4, a5, a6, a7⟩ := h2 j st hi
    have hxl : 6 * j + 5 < xs.length := (List.getElem?_eq_some_iff.1 a5).1
    refine ⟨q, nx, ?_, ?_, ?_, ?_, ?_, List.getElem?_set_self hxl, a6, hn.frame hS⟩
    · rw [List.getElem?_set_ne (by omega)]; exact a0
    · rw [List.getElem?_set_ne (by omega)]; exact a1
    · rw [List.getElem?_set_ne (by omega)]; exact a2
    · rw [List.getElem?_set_ne (by omega)]; exact a3
    · rw [List.getElem?_set_ne (by omega)]; exact a4
  · rw [List.getElem?_set_ne (fun e => hij e.symm)] at hj
    exact (h2 j st' hj).frame hS (fun m hm hm2 => List.getElem?_set_ne (by omega))

theorem heap_swap (w : World) (a : Addr) (v : Value) (o : Obj) (k : Nat) (h : a.block < w.heap.size) : ((w.setCell a v).alloc o).heap[k]? = ((w.alloc o).setCell a v).heap[k]? := by
  show ((w.heap.modify a.block _).push o)[k]? = ((w.heap.push o).modify a.block _)[k]?
  simp only [Array.getElem?_push, Array.getElem?_modify, Array.size_modify]
  by_cases hk : k = w.heap.size
  · subst hk
    simp [show ¬ a.block = w.heap.size by omega]
  · simp [hk]
theorem Tab.form {w : World} {B r : Nat} {v : Value} {l : List St} {Av : Nat → Prop} (h : Tab w B r v l Av) (hl : 0 < l.length) : ∃ g c, v = .slice (some ⟨g, 0, none⟩) l.length c ∧ l.length ≤ c ∧ g ≠ r ∧ B ≤ g ∧ (∀ o, w.frozen? ⟨g, o, none⟩ = false) ∧ ∀ j, j < 6 * l.length → ∃ u, w.cell? ⟨g, j, none⟩ = some u := by
  obtain ⟨xs, h1, h2⟩ := h.own
  have hown := h1
  rcases h1.2 with ⟨h3, h4⟩ | ⟨g, c, arr, hv, hg, harr, hc, hcm, hsz, ht⟩
  · omega
  · refine ⟨g, c, hv, hc, fun e => h.rne (by rw [hv]; simp [Value.ownBlock, e]), hg, fun o => blk_free harr, fun j hj => ?_⟩
    rw [blk_cell harr]
    exact ⟨_, Array.getElem?_eq_getElem (by omega)⟩

/-- The table keeps out of a block that it never had; or lets it be. -/
theorem Tab.mono {w : World} {B r : Nat} {v : Value} {l : List St} {Av Av' : Nat → Prop} (h : Tab w B r v l Av) (hh : ∀ k, k < w.heap.size → Av k → Av' k) : Tab w B r v l Av' := by
  obtain ⟨xs, h1, h2⟩ := h.own
  exact ⟨h.rb, h.rB, h.rne, xs, h1, fun i st hi => (h2 i st hi).frame (fun k hk hS => ⟨rfl, hS.1, hS.2.1, hS.2.2.1, hh k hk hS.2.2.2⟩) (fun j _ _ => rfl)⟩
/-- Behind what changes a block that the table keeps out of. -/
theorem Tab.avoid {w w' : World} {B r : Nat} {v : Value} {l : List St} {Av : Nat → Prop} (h : Tab w B r v l Av) (hh : ∀ k, k < w.heap.size → B ≤ k → (k = r ∨ v.ownBlock = some k ∨ Av k) → w'.heap[k]? = w.heap[k]?) : Tab w' B r v l Av := by
  obtain ⟨xs, h1, h2⟩ := h.own
  exact ⟨(hh r h.lt h.rB (.inl rfl)).trans h.rb, h.rB, h.rne, xs, ownsRow_of h1 (fun k hk => hh k (h1.lt k hk).2 (h1.lt k hk).1 (.inr (.inl hk))), fun i st hi => (h2 i st hi).frame (fun k hk hS => ⟨hh k hk hS.1 (.inr (.inr hS.2.2.2)), hS⟩) (fun j _ _ => rfl)⟩

/-- What 'lay' does. -/
def LayRes (B r : Nat) (v : Value) (Av : Nat → Prop) (w : World) (R : List St × Nat) (e : Ending) (w' : World) : Prop :=
  e = .returned (.int .i64 (R.2 : Int)) ∧ ∃ v', Tab w' B r v' R.1 Av ∧ Chg (MayT r v) w w' ∧ NewT w v v'
def LayOK (x : Rx) : Prop := ∀ (B r nb t : Nat) (v : Value) (l : List St) (Av : Nat → Prop) (w : World), At w (fun k => k < B) nb x → Tab w B r v l Av → (∀ k, w.heap.size ≤ k → Av k) → l.length + Rx.wt x ≤ 100000 → t ≤ 100000 →
  Calls Tryd.prog 39 #[.pointer (some ⟨r, 0, none⟩), .pointer (some ⟨nb, 0, none⟩), .int .i64 (t : Int)] w (LayRes B r v Av w (Rx.lay x t l))

theorem At.root {w : World} {S : Nat → Prop} {b : Nat} {x : Rx} (h : At w S b x) : S b := by
  cases h with
  | mk _ _ q v bs hS => exact hS
theorem At.open {w : World} {S : Nat → Prop} {b : Nat} {x : Rx} (h : At w S b x) : ∃ q v bs, NB w b (kindOf x) q v ∧ (∀ P, x = .byte P → SetV q P) ∧ bs.length = (kidsOf x).length ∧
    ((v = .slice none 0 0 ∧ bs = []) ∨ ∃ g c, v = .slice (some ⟨g, 0, none⟩) bs.length c ∧ bs.length ≤ c ∧ S g ∧ ∀ i b', bs[i]? = some b' → w.cell? ⟨g, i, none⟩ = some (.pointer (some ⟨b', 0, none⟩))) ∧
    ∀ (i b' : Nat) (y : Rx), bs[i]? = some b' → (kidsOf x)[i]? = some y → At w S b' y := by
  cases h with
  | mk _ _ q v bs hS hb hq hl hv hk =>
    refine ⟨q, v, bs, hb, hq, hl, ?_, hk⟩
    rcases hv with hv | ⟨g, c, h1, h2, h3, cs, h4, h5⟩
    · exact .inl hv
    · exact .inr ⟨g, c, h1, h3, h2, fun i b' hi => (blk_cell h4).trans (h5 i b' hi)⟩

set_option maxHeartbeats 2000000 in
theorem lay_byte (P : Nat → Bool) : LayOK (.byte P) := by
  intro B r nb t v l Av w hat hT hav hl ht
  have HAV := Lib.hid hav
  clear hav
  obtain ⟨q, vk, bs, hnb, hq, _, _, _⟩ := hat.open
  have hq := hq P rfl
  have k0 := hnb.w0
  simp only [kindOf] at k0
  have HR := Lib.hid hnb.range
  have HQ := Lib.hid hq
  have hlt := hT.lt
  simp only [Rx.wt] at hl
  obtain ⟨xs, hx, _⟩ := hT.own
  have HX := Lib.hid hx
  have hB := hT.rB
  clear hat hnb hq hx
  go_enter Tryd.func39, Tryd.ntmps39
  go_wp2_with (first | (refine wpList_load_mid rfl _ (.tmp 22) rfl nb 1 rfl [.int .u64 (q 0), .int .u64 (q 1), .int .u64 (q 2), .int .u64 (q 3)] _ HR.out Tryd.underlying86 rfl (by kernel_rfl) ?_) | (go_at_call 38; refine (add_calls B r v l Av q ⟨P, true, [t]⟩ _ _ (hT.alloc _) HQ.out (Nx.one w t ⟨by omega, by omega, fun e => by have := (HX.out.lt _ e.symm).2; omega, HAV.out _ (Nat.le_refl _)⟩) (by omega)).mono ?_; rintro e w2 ⟨rfl, v2, hT2, hc2, hn2⟩))
  go_ret
  refine ⟨rfl, v2, hT2, ?_, ?_⟩
  · exact ((Chg.refl (MayT r v) w).alloc _).trans hc2
  · exact fun k hk => (hn2 k hk).imp id (fun h => by simp at h; omega)

theorem ret_i {k : IntKind} {a b : Int} (h : a = b) : Ending.returned (.int k a) = .returned (.int k b) := by rw [h]
theorem lay_len_le {x : Rx} {t : Nat} {l : List St} (h : l.length + Rx.wt x ≤ 100000) (ht : t ≤ 100000) : (Rx.lay x t l).2 ≤ 100000 := by
  have := Rx.lay_len x t l
  omega

set_option maxHeartbeats 2000000 in
theorem lay_maybe (x : Rx) (hx : LayOK x) : LayOK (.maybe x) := by
  intro B r nb t v l Av w hat hT hav hl ht
  have HAV := Lib.hid hav
  clear hav
  obtain ⟨q, vk, bs, hnb, _, hbl, hv, hk⟩ := hat.open
  obtain ⟨nk, rfl⟩ : ∃ nk, bs = [nk] := List.length_eq_one_iff.1 hbl
  obtain ⟨g, c, rfl, hc1, hgB, hcell⟩ := hv.resolve_left (fun h => by cases h.2)
  have k0 := hnb.w0
  simp only [kindOf] at k0
  have k5 := hnb.w5
  have kc := hcell 0 nk rfl
  change _ = some (Value.slice (some ⟨g, 0, none⟩) 1 c) at k5
  change 1 ≤ c at hc1
  clear hv hcell hbl
  have hkid := hk 0 nk x rfl rfl
  simp only [Rx.wt] at hl
  have hlt := hT.lt
  have hB := hT.rB
  have hb1 := lay_len_le (x := x) (t := t) (l := l) (by omega) ht
  have hll := (Rx.lay_len x t l).1
  obtain ⟨b1, hb1e⟩ : ∃ b1, b1 = (Rx.lay x t l).2 := ⟨_, rfl⟩
  have HB1 := Lib.hid hb1e
  have HX := Lib.hid hx
  have HK := Lib.hid hkid
  clear hat hnb hk hx hkid hb1e
  go_enter Tryd.func39, Tryd.ntmps39
  go_wp2_with (first | (go_at_call 39; refine (HX.out B r nk t v l Av _ HK.out hT HAV.out (by omega) ht).mono ?_; rintro e w1 ⟨rfl, v1, hT1, hcc1, hn1⟩; rw [← HB1.out]) | (go_at_call 38; refine (add_calls B r v1 (Rx.lay x t l).1 Av (fun _ => 0) ⟨fun _ => false, false, [b1, t]⟩ _ _ (hT1.alloc _) SetV.zero (Nx.two w1 b1 t (by exact ⟨by have := hcc1.size; omega, by have := hcc1.size; omega, fun e => by obtain ⟨xs1, o1, _⟩ := hT1.own; have := (o1.lt _ e.symm).2; omega, HAV.out _ hcc1.size⟩)) (by omega)).mono ?_; rintro e w2 ⟨rfl, v2, hT2, hc2, hn2⟩))
  go_ret
  refine ⟨ret_i (by simp only [Rx.lay]; omega), v2, ?_, ?_, ?_⟩
  · simp only [Rx.lay, ← HB1.out]; exact hT2
  · exact chgT hcc1 hn1 (((Chg.refl (MayT r v1) w1).alloc _).trans hc2)
  · exact hn1.trans (fun k hk => (hn2 k hk).imp id (fun h => by simp at h; omega)) hcc1.size

set_option maxHeartbeats 2000000 in
theorem lay_loop (x : Rx) (hx : LayOK x) (y : Rx) (hy : y = .star x ∨ y = .plus x) : LayOK y := by
  intro B r nb t v l Av w hat hT hav hl ht
  have HAV := Lib.hid hav
  clear hav
  have hkd : kidsOf y = [x] := by rcases hy with rfl | rfl <;> rfl
  have hw : Rx.wt y = Rx.wt x + 1 := by rcases hy with rfl | rfl <;> simp [Rx.wt]
  obtain ⟨q, vk, bs, hnb, _, hbl, hv, hk⟩ := hat.open
  rw [hkd] at hbl hk
  obtain ⟨nk, rfl⟩ : ∃ nk, bs = [nk] := List.length_eq_one_iff.1 hbl
  obtain ⟨g, c, rfl, hc1, hgB, hcell⟩ := hv.resolve_left (fun h => by cases h.2)
  have k0 := hnb.w0
  have k5 := hnb.w5
  have kc := hcell 0 nk rfl
  change _ = some (Value.slice (some ⟨g, 0, none⟩) 1 c) at k5
  change 1 ≤ c at hc1
  clear hv hcell hbl
  have hkid := hk 0 nk x rfl rfl
  have hlt := hT.lt
  have hB := hT.rB
  have hb1 := lay_len_le (x := x) (t := l.length) (l := l ++ [St.none]) (by simp; omega) (by omega)
  have hll := (Rx.lay_len x l.length (l ++ [St.none])).1
  obtain ⟨b1, hb1e⟩ : ∃ b1, b1 = (Rx.lay x l.length (l ++ [St.none])).2 := ⟨_, rfl⟩
  have HB1 := Lib.hid hb1e
  have HX := Lib.hid hx
  have HK := Lib.hid hkid
  have HAT := Lib.hid hat
  have HNB := Lib.hid hnb
  have hll2 : l.length < (Rx.lay x l.length (l ++ [St.none])).1.length := by rw [hll]; simp; omega
  have hll3 : (Rx.lay x l.length (l ++ [St.none])).1.length ≤ 100000 := by rw [hll]; simp; omega
  clear hat hnb hk hx hkid hb1e hll hkd
  go_enter Tryd.func39, Tryd.ntmps39
  rcases hy with rfl | rfl
  all_goals
    simp only [kindOf] at k0
    go_wp2_with (first | (go_at_call 38; refine (add_calls B r v l Av (fun _ => 0) St.none _ _ hT SetV.zero (.inl ⟨rfl, rfl⟩) (by omega)).mono ?_; rintro e w1 ⟨rfl, v1, hT1, hcc1, hn1⟩; have hnm : ∀ m, m < B → ¬ MayT r v m := (fun m hm hM => by have := hT.may hM; omega); have j5 := hcc1.cell k5 (hnm _ HAT.out.root); have j0 := hcc1.cell k0 (hnm _ HAT.out.root); have jc := hcc1.cell kc (hnm _ hgB); have hk1 := Lib.hid (HK.out.may hT hcc1)) | (go_at_call 39; refine (HX.out B r nk l.length v1 _ Av _ hk1.out hT1 (fun k hk => HAV.out k (Nat.le_trans hcc1.size hk)) (by simp; omega) (by omega)).mono ?_; rintro e w2 ⟨rfl, v2, hT2, hcc2, hn2⟩; rw [← HB1.out]; have hnm1 : ∀ m, m < B → ¬ MayT r v1 m := (fun m hm hM => by have := hT1.may hM; omega); have i0 := hcc2.cell j0 (hnm1 _ HAT.out.root); obtain ⟨g2, c2, hv2, hgc, hgr2, hgB2, hfz, hcells⟩ := hT2.form (by omega); subst hv2; have r2 := hT2.c0; have hTT := Lib.hid hT2; clear hT2; have hfz2 := hfz (l.length * 6 + 5); obtain ⟨u5, hu5⟩ := hcells (l.length * 6 + 5) (by omega); have hnb2 := World.block_lt_of_cell? _ _ i0; have hg22 := World.block_lt_of_cell? _ _ hu5; have hnbg : nb ≠ g2 := (by have := HAT.out.root; omega); have hnbg2 : (nb = g2) = False := eq_false hnbg; clear hcells hfz))
    go_ret
    have hst := Rx.lay_get x l.length (l ++ [St.none]) l.length (by simp)
    rw [List.getElem?_append_right (Nat.le_refl _)] at hst
    simp only [Nat.sub_self, List.getElem?_cons_zero] at hst
    have hfin := (hTT.out.alloc _).setNext (nx := .slice (some ⟨w2.heap.size, 0, none⟩) 2 2) (ns := [b1, t]) hst (Nx.two w2 b1 t ⟨by omega, by have := hTT.out.lt; omega, fun e => by simp [Value.ownBlock] at e; omega, HAV.out _ (Nat.le_trans hcc1.size hcc2.size)⟩) rfl
    rw [Nat.mul_comm 6] at hfin
    refine ⟨by first | (simp only [Rx.lay, ← HB1.out]; rfl) | (simp only [Rx.lay]; rfl), .slice (some ⟨g2, 0, none⟩) (Rx.lay x l.length (l ++ [St.none])).1.length c2, ?_, ?_, ?_⟩
    · simp only [Rx.lay, ← HB1.out]; exact hfin.frame fun k _ _ => heap_swap _ _ _ _ _ hg22
    · exact (chgT hcc1 hn1 hcc2).trans' (((Chg.refl (MayT r (.slice (some ⟨g2, 0, none⟩) (Rx.lay x l.length (l ++ [St.none])).1.length c2)) w2).setCell (p := ⟨g2, l.length * 6 + 5, none⟩) (.inl (.inr rfl)) _).alloc _) (fun k hk hm => by
        rcases hm with rfl | hm
        · exact .inl rfl
        · rcases (hn1.trans hn2 hcc1.size) k hm with h3 | h3
          · exact .inr h3
          · omega)
    · exact hn1.trans hn2 hcc1.size
end Go.Proofs.YtmlmnckhiianhaaDoor
