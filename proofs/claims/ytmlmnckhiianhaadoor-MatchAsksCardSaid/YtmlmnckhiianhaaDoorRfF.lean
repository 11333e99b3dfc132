/- The document's pattern reader: a row, walked. -/
import Derived.Test.YtmlmnckhiianhaaDoorRfE
import Derived.Test.YtmlmnckhiianhaaDoorRxZ
namespace Go.Proofs.YtmlmnckhiianhaaDoor
open Go.RowKit
set_option linter.unusedVariables false
set_option linter.unusedSimpArgs false

theorem part_ok2 (g : Nat) (s : ByteArray) (i : Nat) (deep : Int) (n : Nat) (f : Nat → Except Nat (Rx × Nat)) (w : World) (hs : s.size ≤ 64) (hi : i < s.size) (hp : RS w g s i deep 0) (hn : n ≤ 8) (HF : RecR g s deep n f) {x : Rx} {j : Nat} (h : Rx.pPart f (bys s) i = .ok (x, j)) :
    Calls Tryd.prog 64 #[.pointer (some ⟨g, 0, none⟩)] w fun e w' => Chg (· = g) w w' ∧ ∃ K hh k, e = .returned (.agg #[.string K, hh, k]) ∧ NV w' (fun m => w.heap.size ≤ m) (K, hh, k) x ∧ RS w' g s (j : Nat) deep 0 ∧ j ≤ s.size :=
  (part_calls2 g s i deep n f w hs hi hp hn HF).mono fun e w' hr => by rw [h] at hr; exact hr
theorem part_err2 (g : Nat) (s : ByteArray) (i : Nat) (deep : Int) (n : Nat) (f : Nat → Except Nat (Rx × Nat)) (w : World) (hs : s.size ≤ 64) (hi : i < s.size) (hp : RS w g s i deep 0) (hn : n ≤ 8) (HF : RecR g s deep n f) {er : Nat} (h : Rx.pPart f (bys s) i = .error er) :
    Calls Tryd.prog 64 #[.pointer (some ⟨g, 0, none⟩)] w fun e w' => Chg (· = g) w w' ∧ (∃ K hh k, e = .returned (.agg #[.string K, hh, k]) ∧ IsSl hh ∧ IsSl k) ∧ er ≠ 0 ∧ ∃ (a : Nat) (d : Int), RS w' g s (a : Nat) d er ∧ a ≤ s.size + 3 + (n + 1) :=
  (part_calls2 g s i deep n f w hs hi hp hn HF).mono fun e w' hr => by rw [h] at hr; exact hr
theorem pParts_step (f : Nat → Except Nat (Rx × Nat)) (t : List Nat) (k i : Nat) (l : List Rx) : Rx.pParts f t (k + 1) i l = if i < t.length ∧ t[i]? ≠ some 124 ∧ t[i]? ≠ some 41 then (match Rx.pTimes f t i with
    | .error e => .error e
    | .ok (x, j) => Rx.pParts f t k j (l ++ [x])) else .ok (l, i) := by
  conv => lhs; unfold Rx.pParts
  rfl
theorem rw_chg {g nb : Nat} {w W w3 : World} {kv : Value} (h : Chg (· = g) w W) (hgr : W.grownBy w3 kv.ownBlock) (hk : ∀ k, kv.ownBlock = some k → w.heap.size ≤ k) (hn : w.heap.size ≤ nb) (v : Value) : Chg (· = g) w (w3.setCell ⟨nb, 2, none⟩ v) :=
  (h.grown hgr (fun k e => .inr (hk k e))).setCell (p := ⟨nb, 2, none⟩) (.inr hn) v
theorem rw_rs {g nb B : Nat} {s : ByteArray} {a d b : Int} {W w3 : World} {kv : Value} (h : RS W g s a d b) (hgr : W.grownBy w3 kv.ownBlock) (hk : ∀ k, kv.ownBlock = some k → B ≤ k) (hg : g < B) (hn : g ≠ nb) (v : Value) : RS (w3.setCell ⟨nb, 2, none⟩ v) g s a d b :=
  RS.far (show RS w3 g s a d b from blk_grown h hgr (fun e => by have := hk g e.symm; omega)) hn v
theorem cut_one (s : ByteArray) (i : Nat) (h : i < s.size) : ∃ c : UInt8, s.extract i (i + 1) = ⟨#[c]⟩ ∧ (bys s)[i]? = some c.toNat := by
  refine ⟨s[i], ?_, bys_get s i h⟩
  obtain ⟨⟨l⟩⟩ := s
  have hl : i < l.length := h
  apply ByteArray.ext
  rw [ByteArray.data_extract]
  apply Array.ext'
  rw [Array.toList_extract]
  simp only [List.extract]
  have : (⟨⟨l⟩⟩ : ByteArray)[i] = l[i] := rfl
  rw [this, Nat.add_sub_cancel_left, List.drop_eq_getElem_cons hl]
  rfl
section
variable {g kb : Nat} {K : ByteArray} {h k : Value} {wo wi : World}
theorem sign_box (hb : NX wi kb K h k) (hg : ¬ kb = g) (m : Nat) (o : Obj) (C : ByteArray) (h' k' v : Value) : NX ((((((wi.drewN m).alloc o).setCell ⟨kb, 0, none⟩ (.string C)).setCell ⟨kb, 1, none⟩ h').setCell ⟨kb, 2, none⟩ k').setCell ⟨g, 1, none⟩ v) kb C h' k' :=
  NX.far (show NX (((((wi.drewN m).alloc o).setCell ⟨kb, 0, none⟩ (.string C)).setCell ⟨kb, 1, none⟩ h').setCell ⟨kb, 2, none⟩ k') kb C h' k' from blk_set (blk_set (blk_set (blk_alloc (w := wi.drewN m) hb o) _) _) _) hg v
theorem sign_chg (hc : Chg (· = g) wo wi) (hk : wo.heap.size ≤ kb) (m : Nat) (o : Obj) (x y z v : Value) : Chg (· = g) wo ((((((wi.drewN m).alloc o).setCell ⟨kb, 0, none⟩ x).setCell ⟨kb, 1, none⟩ y).setCell ⟨kb, 2, none⟩ z).setCell ⟨g, 1, none⟩ v) :=
  (((((hc.drewN m).alloc o).setCell (p := ⟨kb, 0, none⟩) (.inr hk) x).setCell (p := ⟨kb, 1, none⟩) (.inr hk) y).setCell (p := ⟨kb, 2, none⟩) (.inr hk) z).setCell (p := ⟨g, 1, none⟩) (.inl rfl) v
theorem sign_rs {s : ByteArray} {a a' d b : Int} (hp : RS wi g s a d b) (hg : ¬ g = kb) (m : Nat) (o : Obj) (x y z : Value) (ha : a' = a + 1) : RS ((((((wi.drewN m).alloc o).setCell ⟨kb, 0, none⟩ x).setCell ⟨kb, 1, none⟩ y).setCell ⟨kb, 2, none⟩ z).setCell ⟨g, 1, none⟩ (.int .i64 (a + 1))) g s a' d b := by
  subst ha
  exact RS.set1 (RS.far (RS.far (RS.far (RS.alloc (RS.drewN hp m) o) hg _) hg _) hg _) _
theorem sign_nv {x y : Rx} (hv : NV wi (fun m => wo.heap.size ≤ m ∧ m ≠ kb) (K, h, k) y) (hb : NX wi kb K h k) (hgo : g < wo.heap.size) (hg : ¬ kb = g) (hko : wo.heap.size ≤ kb) (hc : Chg (· = g) wo wi) (m : Nat) (C : ByteArray) (a b v : Value) (hk : kidsOf x = [y]) (hx : ∀ P, x ≠ .byte P) (hC : C = kname x) :
    NV ((((((wi.drewN m).alloc (.cells #[.string K, h, k] 50)).setCell ⟨kb, 0, none⟩ (.string C)).setCell ⟨kb, 1, none⟩ a).setCell ⟨kb, 2, none⟩ b).setCell ⟨g, 1, none⟩ v) (fun m => wo.heap.size ≤ m ∧ m ≠ kb) (C, .slice none 0 0, .slice (some ⟨wi.heap.size, 0, none⟩) 1 1) x := by
  have hl := hb.lt
  have hz := hc.size
  have far : ∀ (W : World) (i : Nat), i ≠ kb → i ≠ g → ((((W.setCell ⟨kb, 0, none⟩ (.string C)).setCell ⟨kb, 1, none⟩ a).setCell ⟨kb, 2, none⟩ b).setCell ⟨g, 1, none⟩ v).heap[i]? = W.heap[i]? := fun W i h1 h2 => by
    rw [Below.heap_setCell _ _ _ _ h2, Below.heap_setCell _ _ _ _ h1, Below.heap_setCell _ _ _ _ h1, Below.heap_setCell _ _ _ _ h1]
  refine NV.sign (u := (K, h, k)) (y := y) (hv.frame fun i hi hS => ⟨?_, hS⟩) ?_ ⟨hz, by omega⟩ hk hx (Nat.le_refl _) hC
  · rw [far _ i hS.2 (by omega)]
    exact Below.heap_alloc (wi.drewN m) _ i hi
  · rw [far _ _ (by omega) (by omega)]
    exact blk_new (wi.drewN m) _
end
/-- The state at the head of a row's loop. -/
def RI (g B nb n : Nat) (s : ByteArray) (deep : Int) (f : Nat → Except Nat (Rx × Nat)) (R : Except Nat (List Rx × Nat)) (k : Nat) (kv : Value) (us : List Tr) (wr : World) : Prop :=
  (∃ (j : Nat) (l : List Rx), RS wr g s (j : Nat) deep 0 ∧ j ≤ s.size ∧ Nodes wr (NS B nb kv) us l ∧ s.size < j + k ∧ Rx.pParts f (bys s) k j l = R) ∨ (∃ (er a : Nat) (d : Int), RS wr g s (a : Nat) d er ∧ er ≠ 0 ∧ a ≤ s.size + 3 + (n + 1) ∧ R = .error er)

set_option maxRecDepth 100000 in
set_option maxHeartbeats 8000000 in
theorem row_calls2 (g : Nat) (s : ByteArray) (i : Nat) (deep : Int) (n : Nat) (f : Nat → Except Nat (Rx × Nat)) (w : World) (hs : s.size ≤ 64) (hi : i ≤ s.size) (hp : RS w g s i deep 0) (hn8 : n ≤ 8) (HF : RecR g s deep n f) (hgood : Rx.Good f) :
    Calls Tryd.prog 50 #[.pointer (some ⟨g, 0, none⟩)] w (NRes g s deep (n + 1) w (Rx.pRow f (bys s) i)) := by
  have hg := hp.lt
  obtain ⟨i0, hinf, hz0, hz1, hz2⟩ := info_parts Tryd.infoNode
  obtain ⟨R, hR0⟩ : ∃ R, Rx.pParts f (bys s) ((bys s).length + 1) i [] = R := ⟨_, rfl⟩
  have hR : Rx.pRow f (bys s) i = mkOf .row R := by rw [← hR0, pRow_eq]
  rw [hR]
  clear hR
  rw [bys_len] at hR0
  have HR := Lib.hid hR0
  clear hR0
  have hpl0 := Lib.hid ((hp.alloc (.cells #[.string ⟨#[]⟩, .slice none 0 0, .slice none 0 0] 50)).alloc (.cells #[.string ⟨#[114, 111, 119]⟩, .slice none 0 0, .slice none 0 0] 50))
  have hgB : ¬ w.heap.size = g := by omega
  have hgB2 : ¬ g = w.heap.size := by omega
  go_enter Tryd.func50, Tryd.ntmps50
  go_wp2
  go_loopg [4] (s.size + 1) (fun k u4 wr => ∃ (kv : Value) (us : List Tr), us.length + k ≤ s.size + 1 ∧ RW w.heap.size (w.heap.size + 1) ⟨#[114, 111, 119]⟩ kv us wr ∧ Hid (Chg (· = g) w wr) ∧ RI g w.heap.size (w.heap.size + 1) n s deep f R k kv us wr)
  case atStart => exact ⟨.slice none 0 0, [], by simp, RW.start w _ _ rfl (.cells #[.string ⟨#[114, 111, 119]⟩, .slice none 0 0, .slice none 0 0] 50) rfl, Lib.hid (((Chg.refl (· = g) w).alloc _).alloc _), .inl ⟨i, [], hpl0.out, hi, Nodes.nil _ _, by omega, HR.out⟩⟩
  case round =>
    obtain ⟨kv, us, hlen, hrw, hch, hri⟩ := hrel
    obtain ⟨wo, rfl⟩ : ∃ m : World, m = wr := ⟨_, rfl⟩
    obtain ⟨gk0, rfl⟩ : ∃ m : Nat, m = gk := ⟨_, rfl⟩
    clear hp HR hpl0
    have hzo := hch.out.size
    have hnb := hrw.box.lt
    obtain ⟨kA, kN, kC, rfl⟩ := hrw.isSl
    have HRW := Lib.hid hrw
    have v0 := hrw.box.c0
    have v1 := hrw.box.c1
    have v2 := hrw.box.c2
    have vf := hrw.box.f 2
    have rr0 := hrw.rb.c0
    have rr1 := hrw.rb.c1
    have rr2 := hrw.rb.c2
    have rf0 := hrw.rb.f 0
    have rf1 := hrw.rb.f 1
    have rf2 := hrw.rb.f 2
    have HOWN := Lib.hid (fun k hk => (hrw.own.lt k hk).1 : ∀ k, (Value.slice kA kN kC).ownBlock = some k → w.heap.size ≤ k)
    clear hrw
    rcases hri with ⟨j, l, hp, hj, hN, hsz, hL⟩ | ⟨er, a, d, hp, hne, ha, hL⟩
    · have HN := Lib.hid hN
      have HL := Lib.hid hL
      have hpl := Lib.hid hp
      have c1 := hp.c1
      have c3 := hp.c3
      have f1 := hp.f 1
      clear hN hL
      by_cases hst : j < s.size ∧ (bys s)[j]? ≠ some 124 ∧ (bys s)[j]? ≠ some 41
      · have hjs := hst.1
        have hbj := bys_get s j hjs
        have hcb : s[j].toNat < 256 := UInt8.toNat_lt _
        generalize s[j].toNat = c at *
        have e124 : ((c : Int) == 124) = false := eqb_no (k := 124) (fun h => hst.2.1 (by rw [hbj, h]))
        have e41 : ((c : Int) == 41) = false := eqb_no (k := 41) (fun h => hst.2.2 (by rw [hbj, h]))
        have b124 : ((c : Int) != 124) = true := by simp only [bne, e124]; rfl
        have b41 : ((c : Int) != 41) = true := by simp only [bne, e41]; rfl
        clear e124 e41
        have HNX := Lib.hid (nx_some hbj)
        obtain ⟨k0, rfl⟩ : ∃ m : Nat, m + 1 = gk0 := ⟨gk0 - 1, by omega⟩
        have hL2 := HL.out
        rw [pParts_step, if_pos (by rw [bys_len]; exact hst)] at hL2
        have HL2 := Lib.hid hL2
        clear hL2 HL hst hbj
        cases hpa : Rx.pPart f (bys s) j with
        | error er =>
          have HE : Hid (R = .error er) := Lib.hid (by rw [← HL2.out]; simp only [Rx.pTimes, hpa])
          have HPA := Lib.hid hpa
          clear hpa HL2
          go_wp2_with (first | (go_at_call 51; (fail_if_success (have := hc2)); ((refine (next_calls2 g s j deep 0 _ hs (by first | exact hpl.out | exact hpl.out.drewN _)).mono ?_); rintro e w1 ⟨rfl, ⟨n1, rfl⟩, -⟩; rw [HNX.out])) | (go_at_call 64; ((refine (part_err2 g s j deep n f _ hs hjs (by first | exact hpl.out.drewN _ | exact (hpl.out.drewN _).alloc _) hn8 HF HPA.out).mono ?_); rintro e w2 ⟨hc2, ⟨K2, h2, k2, rfl, ⟨hA, hN, hC, rfl⟩, ⟨qA, qN, qC, rfl⟩⟩, hne, a2, d2, hp2, ha2⟩; have her : ((er : Int) == 0) = false := (by simp; omega); have hpD := hp2.alloc (.cells #[.string K2, .slice hA hN hC, .slice qA qN qC] 50); have d1 := hpD.c1; have d3 := hpD.c3; have hzc2 : wo.heap.size ≤ w2.heap.size := hc2.size; have hgw2 : g < w2.heap.size := hp2.lt; have hRW2 := (HRW.out.chg (g := g) (w' := w2.alloc (.cells #[.string K2, .slice hA hN hC, .slice qA qN qC] 50)) (by repeat (first | exact Chg.refl _ _ | with_reducible apply Chg.drewN | with_reducible apply Chg.drew | with_reducible apply Chg.setG | with_reducible apply Chg.alloc | with_reducible refine Chg.trans ?_ hc4.out | with_reducible refine Chg.trans ?_ hc2)) (by omega) (by omega)); have x2 := hRW2.box.c2; have xf := hRW2.box.f 2)))
          refine wp_loop_rounds 1 ?_
          rw [rounds_succ]
          go_wp2_with (first | (at_builtin; go_loud (refine wpList_append_lies _ rfl (.tmp 73) (.tmp 75) 48 rfl w.heap.size 50 i0 (.agg #[.string ⟨#[]⟩, .slice none 0 0, .slice none 0 0]) 3 64 Tryd.underlying48 hinf hz0 hz1 hz2 rfl (by decide) (.slice kA kN kC) us.length (flat us) rfl (by exact (HRW.out.chg (g := g) (by repeat (first | exact Chg.refl _ _ | with_reducible apply Chg.drewN | with_reducible apply Chg.drew | with_reducible apply Chg.setG | with_reducible apply Chg.alloc | with_reducible refine Chg.trans ?_ hc4.out | with_reducible refine Chg.trans ?_ hc2)) (by omega) (by omega)).own) ⟨_, 0, none⟩ 1 1 [.string K2, .slice hA hN hC, .slice qA qN qC] rfl rfl (World.news_of_block (blk_new' _ _ _ (by simp))) (fun u hu => news3 ⟨_, _, _, rfl⟩ ⟨_, _, _, rfl⟩ hu) (by decide) (by unfold maxLen; omega) (by omega) (by simp; omega) _ rfl (fun g1 cap w3 hown3 hgr3 hor3 hlt3 => ?_)); have hq3 : NX w3 (w.heap.size + 1) ⟨#[114, 111, 119]⟩ (.slice none 0 0) (.slice kA kN kC) := (by refine blk_grown ?_ hgr3 HRW.out.kn; exact (HRW.out.chg (g := g) (by repeat (first | exact Chg.refl _ _ | with_reducible apply Chg.drewN | with_reducible apply Chg.drew | with_reducible apply Chg.setG | with_reducible apply Chg.alloc | with_reducible refine Chg.trans ?_ hc4.out | with_reducible refine Chg.trans ?_ hc2)) (by omega) (by omega)).box); have q32 := hq3.c2; have q3f := hq3.f 2))
          go_roundg k0
          case measure => omega
          case rel => exact ⟨_, us ++ [(K2, .slice hA hN hC, .slice qA qN qC)], by simp; omega, HRW.out.push (g := g) (u := (K2, .slice hA hN hC, .slice qA qN qC)) (by repeat (first | exact Chg.refl _ _ | with_reducible apply Chg.drewN | with_reducible apply Chg.drew | with_reducible apply Chg.setG | with_reducible apply Chg.alloc | with_reducible refine Chg.trans ?_ hc4.out | with_reducible refine Chg.trans ?_ hc2)) (by omega) (by omega) hown3 hgr3 hor3, Lib.hid (rw_chg (hch.out.trans (by repeat (first | exact Chg.refl _ _ | with_reducible apply Chg.drewN | with_reducible apply Chg.drew | with_reducible apply Chg.setG | with_reducible apply Chg.alloc | with_reducible refine Chg.trans ?_ hc4.out | with_reducible refine Chg.trans ?_ hc2))) hgr3 HOWN.out (by omega) _), .inr ⟨er, a2, d2, rw_rs (hpD.alloc _) hgr3 HOWN.out (by omega) (by omega) _, hne, ha2, HE.out⟩⟩
        | ok xj =>
          obtain ⟨x, j1⟩ := xj
          have hadv := (Rx.pPart_adv hgood hpa).1
          obtain ⟨RR, hRR⟩ : ∃ RR, Rx.pSigns (bys s) (s.size + 1) j1 x = RR := ⟨_, rfl⟩
          have hL3 : Rx.pParts f (bys s) k0 RR.2 (l ++ [RR.1]) = R := by rw [← HL2.out]; simp only [Rx.pTimes, hpa, bys_len, hRR]
          have HL3 := Lib.hid hL3
          have HRR := Lib.hid hRR
          have HPA := Lib.hid hpa
          clear hpa HL2 hL3 hRR
          go_wp2_with (first | (go_at_call 51; (fail_if_success (have := hc2)); ((refine (next_calls2 g s j deep 0 _ hs (by first | exact hpl.out | exact hpl.out.drewN _)).mono ?_); rintro e w1 ⟨rfl, ⟨n1, rfl⟩, -⟩; rw [HNX.out])) | (go_at_call 64; ((refine (part_ok2 g s j deep n f _ hs hjs (by first | exact hpl.out.drewN _ | exact (hpl.out.drewN _).alloc _) hn8 HF HPA.out).mono ?_); rintro e w2 ⟨hc2, K2, h2, k2, rfl, hv2, hp2, hj2⟩; obtain ⟨hA, hN, hC, rfl⟩ := hv2.one.2.1; obtain ⟨qA, qN, qC, rfl⟩ := hv2.one.2.2; have HV2 := Lib.hid hv2; clear hv2; have hpD := hp2.alloc (.cells #[.string K2, .slice hA hN hC, .slice qA qN qC] 50); have d1 := hpD.c1; have d3 := hpD.c3; have hzc2 : wo.heap.size ≤ w2.heap.size := hc2.size; have hgw2 : g < w2.heap.size := hp2.lt; have hRW2 := (HRW.out.chg (g := g) (w' := w2.alloc (.cells #[.string K2, .slice hA hN hC, .slice qA qN qC] 50)) (by repeat (first | exact Chg.refl _ _ | with_reducible apply Chg.drewN | with_reducible apply Chg.drew | with_reducible apply Chg.setG | with_reducible apply Chg.alloc | with_reducible refine Chg.trans ?_ hc4.out | with_reducible refine Chg.trans ?_ hc2)) (by omega) (by omega)); have x2 := hRW2.box.c2; have xf := hRW2.box.f 2)))
          go_loopg [28] (s.size + 1) (fun k2 u28 wr => ∃ (K : ByteArray) (A1 A2 : Option Addr) (m1 c1 m2 c2 : Nat) (y : Rx) (jj : Nat), NX wr w2.heap.size K (.slice A1 m1 c1) (.slice A2 m2 c2) ∧ Hid (NV wr (fun m => wo.heap.size ≤ m ∧ m ≠ w2.heap.size) (K, .slice A1 m1 c1, .slice A2 m2 c2) y) ∧ RS wr g s (jj : Nat) deep 0 ∧ j < jj ∧ jj ≤ s.size ∧ s.size < jj + k2 ∧ Hid (Chg (· = g) wo wr) ∧ Hid (Rx.pSigns (bys s) k2 jj y = RR))
          case atStart => exact ⟨K2, hA, qA, hN, hC, qN, qC, x, j1, blk_new' _ _ _ rfl, Lib.hid (HV2.out.frame fun m hm hS => ⟨Below.heap_alloc _ _ _ hm, hS, by omega⟩), hpD, hadv, hj2, by omega, Lib.hid (by repeat (first | exact Chg.refl _ _ | with_reducible apply Chg.drewN | with_reducible apply Chg.drew | with_reducible apply Chg.setG | with_reducible apply Chg.alloc | with_reducible refine Chg.trans ?_ hc4.out | with_reducible refine Chg.trans ?_ hc2)), HRR⟩
          case round =>
            obtain ⟨K, A1, A2, m1, c1', m2, c2, y, jj, hbx, hnv, hp4, hjj, hjs4, hsz4, hc4, hps⟩ := hrel
            obtain ⟨wi, rfl⟩ : ∃ m : World, m = wr := ⟨_, rfl⟩
            obtain ⟨k4, rfl⟩ : ∃ m : Nat, m = gk := ⟨_, rfl⟩
            clear HRR HV2 hpD d1 d3 x2 xf hRW2 hp2
            have hzc4 : wo.heap.size ≤ wi.heap.size := hc4.out.size
            have hzb := hbx.lt
            have hgb : ¬ g = w2.heap.size := by omega
            have hgb2 : ¬ w2.heap.size = g := by omega
            have y0 := hbx.c0
            have y1 := hbx.c1
            have y2 := hbx.c2
            have yf0 := hbx.f 0
            have yf1 := hbx.f 1
            have yf2 := hbx.f 2
            have p0 := hp4.c0
            have p1 := hp4.c1
            have p3 := hp4.c3
            have pf1 := hp4.f 1
            have hRWi := (HRW.out.chg (g := g) (w' := wi) (by repeat (first | exact Chg.refl _ _ | with_reducible apply Chg.drewN | with_reducible apply Chg.drew | with_reducible apply Chg.setG | with_reducible apply Chg.alloc | with_reducible refine Chg.trans ?_ hc4.out | with_reducible refine Chg.trans ?_ hc2)) (by omega) (by omega))
            have xi2 := hRWi.box.c2
            have xif := hRWi.box.f 2
            have HPS := Lib.hid hps
            obtain ⟨k5, rfl⟩ : ∃ m : Nat, m + 1 = k4 := ⟨k4 - 1, by omega⟩
            by_cases hsg : (bys s)[jj]? = some 42 ∨ (bys s)[jj]? = some 43 ∨ (bys s)[jj]? = some 63
            · have hjl : jj < s.size := by
                rcases hsg with h | h | h <;> (have := (List.getElem?_eq_some_iff.1 h).1; rwa [bys_len] at this)
              obtain ⟨ch, hex, hch2⟩ := cut_one s jj hjl
              have hi1 : (0 : Int) ≤ (jj : Int) := by omega
              have hwr : IntKind.i64.wrap ((jj : Int) + 1) = (jj : Int) + 1 := IntWalk.i64_in _ (by omega)
              have hnt : ((jj : Int) + 1).toNat = jj + 1 := by omega
              have hi3 : (0 : Int) ≤ (jj : Int) + 1 := by omega
              have hi4 : (jj : Int) ≤ (jj : Int) + 1 := by omega
              have gA0 : ∀ n, (World.alloc (wi.drewN n) (.cells #[.string K, .slice A1 m1 c1', .slice A2 m2 c2] 50)).cell? ⟨g, 0, none⟩ = some (.string s) := fun n => ((hp4.drewN n).alloc (.cells #[.string K, .slice A1 m1 c1', .slice A2 m2 c2] 50)).c0
              have gA1 : ∀ n, (World.alloc (wi.drewN n) (.cells #[.string K, .slice A1 m1 c1', .slice A2 m2 c2] 50)).cell? ⟨g, 1, none⟩ = some (.int .i64 (jj : Int)) := fun n => ((hp4.drewN n).alloc (.cells #[.string K, .slice A1 m1 c1', .slice A2 m2 c2] 50)).c1
              have gAf : ∀ n, (World.alloc (wi.drewN n) (.cells #[.string K, .slice A1 m1 c1', .slice A2 m2 c2] 50)).frozen? ⟨g, 1, none⟩ = false := fun n => ((hp4.drewN n).alloc (.cells #[.string K, .slice A1 m1 c1', .slice A2 m2 c2] 50)).f 1
              have kA0 : ∀ n, (World.alloc (wi.drewN n) (.cells #[.string K, .slice A1 m1 c1', .slice A2 m2 c2] 50)).cell? ⟨w2.heap.size, 0, none⟩ = some (.string K) := fun n => (NX.alloc (w := wi.drewN n) hbx (.cells #[.string K, .slice A1 m1 c1', .slice A2 m2 c2] 50)).c0
              have kA1 : ∀ n, (World.alloc (wi.drewN n) (.cells #[.string K, .slice A1 m1 c1', .slice A2 m2 c2] 50)).cell? ⟨w2.heap.size, 1, none⟩ = some (.slice A1 m1 c1') := fun n => (NX.alloc (w := wi.drewN n) hbx (.cells #[.string K, .slice A1 m1 c1', .slice A2 m2 c2] 50)).c1
              have kA2 : ∀ n, (World.alloc (wi.drewN n) (.cells #[.string K, .slice A1 m1 c1', .slice A2 m2 c2] 50)).cell? ⟨w2.heap.size, 2, none⟩ = some (.slice A2 m2 c2) := fun n => (NX.alloc (w := wi.drewN n) hbx (.cells #[.string K, .slice A1 m1 c1', .slice A2 m2 c2] 50)).c2
              have kAf0 : ∀ n, (World.alloc (wi.drewN n) (.cells #[.string K, .slice A1 m1 c1', .slice A2 m2 c2] 50)).frozen? ⟨w2.heap.size, 0, none⟩ = false := fun n => (NX.alloc (w := wi.drewN n) hbx (.cells #[.string K, .slice A1 m1 c1', .slice A2 m2 c2] 50)).f 0
              have kAf1 : ∀ n, (World.alloc (wi.drewN n) (.cells #[.string K, .slice A1 m1 c1', .slice A2 m2 c2] 50)).frozen? ⟨w2.heap.size, 1, none⟩ = false := fun n => (NX.alloc (w := wi.drewN n) hbx (.cells #[.string K, .slice A1 m1 c1', .slice A2 m2 c2] 50)).f 1
              have kAf2 : ∀ n, (World.alloc (wi.drewN n) (.cells #[.string K, .slice A1 m1 c1', .slice A2 m2 c2] 50)).frozen? ⟨w2.heap.size, 2, none⟩ = false := fun n => (NX.alloc (w := wi.drewN n) hbx (.cells #[.string K, .slice A1 m1 c1', .slice A2 m2 c2] 50)).f 2
              have hi2 : (jj : Int) + 1 ≤ (s.size : Int) := by omega
              rcases hsg with h | h | h
              · have hcc : ch = 42 := UInt8.toNat_inj.1 (by rw [hch2] at h; injection h with h)
                subst hcc
                have hL5 : Rx.pSigns (bys s) k5 (jj + 1) (.star y) = RR := by
                  have := HPS.out.out
                  unfold Rx.pSigns at this
                  rw [h] at this
                  exact this
                have HL5 := Lib.hid hL5
                have HNX5 := Lib.hid (nx_some h)
                clear h hch2 hL5 HPS hps
                go_wp2_with (first | (go_at_call 51; ((refine (next_calls2 g s jj deep 0 _ hs (by first | exact hp4 | exact hp4.drewN _)).mono ?_); rintro e w5 ⟨rfl, ⟨n5, rfl⟩, -⟩; rw [HNX5.out])))
                go_region
                all_goals
                  go_wp2
                  go_roundg k5
                  case measure => omega
                  case rel => exact ⟨_, none, some ⟨wi.heap.size, 0, none⟩, 0, 0, 1, 1, .star y, jj + 1, sign_box hbx hgb2 _ _ _ _ _ _, Lib.hid (sign_nv hnv.out hbx (by omega) hgb2 (by omega) hc4.out _ _ _ _ _ rfl (fun P e => by cases e) rfl), sign_rs hp4 hgb _ _ _ _ _ (by omega), by omega, by omega, by omega, Lib.hid (sign_chg hc4.out (by omega) _ _ _ _ _ _), HL5⟩
              · have hcc : ch = 43 := UInt8.toNat_inj.1 (by rw [hch2] at h; injection h with h)
                subst hcc
                have hL5 : Rx.pSigns (bys s) k5 (jj + 1) (.plus y) = RR := by
                  have := HPS.out.out
                  unfold Rx.pSigns at this
                  rw [h] at this
                  exact this
                have HL5 := Lib.hid hL5
                have HNX5 := Lib.hid (nx_some h)
                clear h hch2 hL5 HPS hps
                go_wp2_with (first | (go_at_call 51; ((refine (next_calls2 g s jj deep 0 _ hs (by first | exact hp4 | exact hp4.drewN _)).mono ?_); rintro e w5 ⟨rfl, ⟨n5, rfl⟩, -⟩; rw [HNX5.out])))
                go_region
                all_goals
                  go_wp2
                  go_roundg k5
                  case measure => omega
                  case rel => exact ⟨_, none, some ⟨wi.heap.size, 0, none⟩, 0, 0, 1, 1, .plus y, jj + 1, sign_box hbx hgb2 _ _ _ _ _ _, Lib.hid (sign_nv hnv.out hbx (by omega) hgb2 (by omega) hc4.out _ _ _ _ _ rfl (fun P e => by cases e) rfl), sign_rs hp4 hgb _ _ _ _ _ (by omega), by omega, by omega, by omega, Lib.hid (sign_chg hc4.out (by omega) _ _ _ _ _ _), HL5⟩
              · have hcc : ch = 63 := UInt8.toNat_inj.1 (by rw [hch2] at h; injection h with h)
                subst hcc
                have hL5 : Rx.pSigns (bys s) k5 (jj + 1) (.maybe y) = RR := by
                  have := HPS.out.out
                  unfold Rx.pSigns at this
                  rw [h] at this
                  exact this
                have HL5 := Lib.hid hL5
                have HNX5 := Lib.hid (nx_some h)
                clear h hch2 hL5 HPS hps
                go_wp2_with (first | (go_at_call 51; ((refine (next_calls2 g s jj deep 0 _ hs (by first | exact hp4 | exact hp4.drewN _)).mono ?_); rintro e w5 ⟨rfl, ⟨n5, rfl⟩, -⟩; rw [HNX5.out])))
                go_region
                all_goals
                  go_wp2
                  go_roundg k5
                  case measure => omega
                  case rel => exact ⟨_, none, some ⟨wi.heap.size, 0, none⟩, 0, 0, 1, 1, .maybe y, jj + 1, sign_box hbx hgb2 _ _ _ _ _ _, Lib.hid (sign_nv hnv.out hbx (by omega) hgb2 (by omega) hc4.out _ _ _ _ _ rfl (fun P e => by cases e) rfl), sign_rs hp4 hgb _ _ _ _ _ (by omega), by omega, by omega, by omega, Lib.hid (sign_chg hc4.out (by omega) _ _ _ _ _ _), HL5⟩
            · have hL5 : RR = (y, jj) := by
                have := HPS.out.out
                unfold Rx.pSigns at this
                rw [Rx.sign_none ⟨fun h => hsg (.inl h), fun h => hsg (.inr (.inl h)), fun h => hsg (.inr (.inr h))⟩] at this
                exact this.symm
              subst hL5
              have n42 : (nx s jj == 42) = false := (nx_eq s jj 42).trans (decide_eq_false fun h => hsg (.inl h))
              have n43 : (nx s jj == 43) = false := (nx_eq s jj 43).trans (decide_eq_false fun h => hsg (.inr (.inl h)))
              have n63 : (nx s jj == 63) = false := (nx_eq s jj 63).trans (decide_eq_false fun h => hsg (.inr (.inr h)))
              clear hsg
              go_wp2_with (first | (go_at_call 51; ((refine (next_calls2 g s jj deep 0 _ hs (by first | exact hp4 | exact hp4.drewN _)).mono ?_); rintro e w5 ⟨rfl, ⟨n5, rfl⟩, -⟩)) | (at_builtin; go_loud (refine wpList_append_lies _ rfl (.tmp 73) (.tmp 75) 48 rfl w.heap.size 50 i0 (.agg #[.string ⟨#[]⟩, .slice none 0 0, .slice none 0 0]) 3 64 Tryd.underlying48 hinf hz0 hz1 hz2 rfl (by decide) (.slice kA kN kC) us.length (flat us) rfl (by exact (HRW.out.chg (g := g) (by repeat (first | exact Chg.refl _ _ | with_reducible apply Chg.drewN | with_reducible apply Chg.drew | with_reducible apply Chg.setG | with_reducible apply Chg.alloc | with_reducible refine Chg.trans ?_ hc4.out | with_reducible refine Chg.trans ?_ hc2)) (by omega) (by omega)).own) ⟨_, 0, none⟩ 1 1 [.string K, .slice A1 m1 c1', .slice A2 m2 c2] rfl rfl (World.news_of_block (blk_new' _ _ _ (by simp))) (fun u hu => news3 ⟨_, _, _, rfl⟩ ⟨_, _, _, rfl⟩ hu) (by decide) (by unfold maxLen; omega) (by omega) (by simp; omega) _ rfl (fun g1 cap w3 hown3 hgr3 hor3 hlt3 => ?_)); have hq3 : NX w3 (w.heap.size + 1) ⟨#[114, 111, 119]⟩ (.slice none 0 0) (.slice kA kN kC) := (by refine blk_grown ?_ hgr3 HRW.out.kn; exact (HRW.out.chg (g := g) (by repeat (first | exact Chg.refl _ _ | with_reducible apply Chg.drewN | with_reducible apply Chg.drew | with_reducible apply Chg.setG | with_reducible apply Chg.alloc | with_reducible refine Chg.trans ?_ hc4.out | with_reducible refine Chg.trans ?_ hc2)) (by omega) (by omega)).box); have q32 := hq3.c2; have q3f := hq3.f 2))
              go_roundg k0
              case measure => omega
              case rel => exact ⟨_, us ++ [(K, .slice A1 m1 c1', .slice A2 m2 c2)], by simp; omega, HRW.out.push (g := g) (u := (K, .slice A1 m1 c1', .slice A2 m2 c2)) (by repeat (first | exact Chg.refl _ _ | with_reducible apply Chg.drewN | with_reducible apply Chg.drew | with_reducible apply Chg.setG | with_reducible apply Chg.alloc | with_reducible refine Chg.trans ?_ hc4.out | with_reducible refine Chg.trans ?_ hc2)) (by omega) (by omega) hown3 hgr3 hor3, Lib.hid (rw_chg (hch.out.trans (by repeat (first | exact Chg.refl _ _ | with_reducible apply Chg.drewN | with_reducible apply Chg.drew | with_reducible apply Chg.setG | with_reducible apply Chg.alloc | with_reducible refine Chg.trans ?_ hc4.out | with_reducible refine Chg.trans ?_ hc2))) hgr3 HOWN.out (by omega) _), .inl ⟨jj, l ++ [y], rw_rs ((hp4.drewN _).alloc _) hgr3 HOWN.out (by omega) (by omega) _, hjs4, HN.out.push HRW.out (g := g) (by repeat (first | exact Chg.refl _ _ | with_reducible apply Chg.drewN | with_reducible apply Chg.drew | with_reducible apply Chg.setG | with_reducible apply Chg.alloc | with_reducible refine Chg.trans ?_ hc4.out | with_reducible refine Chg.trans ?_ hc2)) (by omega) (by omega) (hnv.out.chg (M := (· = g)) (by repeat (first | exact Chg.refl _ _ | with_reducible apply Chg.drewN | with_reducible apply Chg.drew | with_reducible apply Chg.setG | with_reducible apply Chg.alloc | with_reducible refine Chg.trans ?_ hc4.out | with_reducible refine Chg.trans ?_ hc2)) (fun m hm hS => by omega) (fun m hm hS => hS.1)) hgr3 hor3 _, by omega, HL3.out⟩⟩
      · have hL2 : R = .ok (l, j) := by rw [← HL.out]; exact Rx.parts_stop (by rw [bys_len]; exact hst)
        have HL2 := Lib.hid hL2
        clear hL2 HL
        by_cases h1 : j < s.size
        · have hnc : (bys s)[j]? = some 124 ∨ (bys s)[j]? = some 41 := by
            by_cases h2 : (bys s)[j]? = some 124
            · exact .inl h2
            · by_cases h3 : (bys s)[j]? = some 41
              · exact .inr h3
              · exact absurd ⟨h1, h2, h3⟩ hst
          rcases hnc with h2 | h2
          all_goals
            have HNX := Lib.hid (nx_some h2)
            clear h2 hst
            go_wp2_with (first | (go_at_call 51; ((refine (next_calls2 g s j deep 0 _ hs (by first | exact hpl.out | exact hpl.out.drewN _)).mono ?_); rintro e w1 ⟨rfl, ⟨n1, rfl⟩, -⟩; rw [HNX.out])))
            refine bodyPost_ret (v := .agg #[.string ⟨#[114, 111, 119]⟩, .slice none 0 0, .slice kA kN kC]) (by simp [results, Tryd.results50, go_sem, rr0, rr1, rr2]) rfl ?_
            rw [HL2.out]
            exact nres_ok hg (hch.out.trans (by repeat (first | exact Chg.refl _ _ | with_reducible apply Chg.drewN | with_reducible apply Chg.drew | with_reducible apply Chg.setG | with_reducible apply Chg.alloc | with_reducible refine Chg.trans ?_ hc4.out | with_reducible refine Chg.trans ?_ hc2))) ((HRW.out.done (x := .row l) HN.out rfl (fun P e => by cases e) rfl (by omega)).frame fun m hm hS => ⟨rfl, hS⟩) (hpl.out.drewN _) hj
        · have HNX := Lib.hid (nx_none (bys_ge s j (by omega)))
          clear hst
          go_wp2_with (first | (go_at_call 51; ((refine (next_calls2 g s j deep 0 _ hs (by first | exact hpl.out | exact hpl.out.drewN _)).mono ?_); rintro e w1 ⟨rfl, ⟨n1, rfl⟩, -⟩; rw [HNX.out])))
          refine bodyPost_ret (v := .agg #[.string ⟨#[114, 111, 119]⟩, .slice none 0 0, .slice kA kN kC]) (by simp [results, Tryd.results50, go_sem, rr0, rr1, rr2]) rfl ?_
          rw [HL2.out]
          exact nres_ok hg (hch.out.trans (by repeat (first | exact Chg.refl _ _ | with_reducible apply Chg.drewN | with_reducible apply Chg.drew | with_reducible apply Chg.setG | with_reducible apply Chg.alloc | with_reducible refine Chg.trans ?_ hc4.out | with_reducible refine Chg.trans ?_ hc2))) ((HRW.out.done (x := .row l) HN.out rfl (fun P e => by cases e) rfl (by omega)).frame fun m hm hS => ⟨rfl, hS⟩) (hpl.out.drewN _) hj
    · have her : ((er : Int) == 0) = false := by simp; omega
      have c3 := hp.c3
      have HE := Lib.hid hL
      clear hL
      go_wp2
      refine bodyPost_ret (v := .agg #[.string ⟨#[114, 111, 119]⟩, .slice none 0 0, .slice kA kN kC]) (by simp [results, Tryd.results50, go_sem, rr0, rr1, rr2]) rfl ?_
      rw [HE.out]
      exact nres_err hg (hch.out.trans (by repeat (first | exact Chg.refl _ _ | with_reducible apply Chg.drewN | with_reducible apply Chg.drew | with_reducible apply Chg.setG | with_reducible apply Chg.alloc | with_reducible refine Chg.trans ?_ hc4.out | with_reducible refine Chg.trans ?_ hc2))) (isSl _ _ _) (isSl _ _ _) hne (a := a) hp (by omega)
end Go.Proofs.YtmlmnckhiianhaaDoor
