/- The document's pattern reader: rows with bars between, walked; a pattern of any depth. -/
import Derived.Test.YtmlmnckhiianhaaDoorRfF
namespace Go.Proofs.YtmlmnckhiianhaaDoor
open Go.RowKit
set_option linter.unusedVariables false
set_option linter.unusedSimpArgs false

theorem row_ok2 (g : Nat) (s : ByteArray) (i : Nat) (deep : Int) (n : Nat) (f : Nat → Except Nat (Rx × Nat)) (w : World) (hs : s.size ≤ 64) (hi : i ≤ s.size) (hp : RS w g s i deep 0) (hn : n ≤ 8) (HF : RecR g s deep n f) (hgood : Rx.Good f) {x : Rx} {j : Nat} (h : Rx.pRow f (bys s) i = .ok (x, j)) :
    Calls Tryd.prog 50 #[.pointer (some ⟨g, 0, none⟩)] w fun e w' => Chg (· = g) w w' ∧ ∃ K hh k, e = .returned (.agg #[.string K, hh, k]) ∧ NV w' (fun m => w.heap.size ≤ m) (K, hh, k) x ∧ RS w' g s (j : Nat) deep 0 ∧ j ≤ s.size :=
  (row_calls2 g s i deep n f w hs hi hp hn HF hgood).mono fun e w' hr => by rw [h] at hr; exact hr
theorem row_err2 (g : Nat) (s : ByteArray) (i : Nat) (deep : Int) (n : Nat) (f : Nat → Except Nat (Rx × Nat)) (w : World) (hs : s.size ≤ 64) (hi : i ≤ s.size) (hp : RS w g s i deep 0) (hn : n ≤ 8) (HF : RecR g s deep n f) (hgood : Rx.Good f) {er : Nat} (h : Rx.pRow f (bys s) i = .error er) :
    Calls Tryd.prog 50 #[.pointer (some ⟨g, 0, none⟩)] w fun e w' => Chg (· = g) w w' ∧ (∃ K hh k, e = .returned (.agg #[.string K, hh, k]) ∧ IsSl hh ∧ IsSl k) ∧ er ≠ 0 ∧ ∃ (a : Nat) (d : Int), RS w' g s (a : Nat) d er ∧ a ≤ s.size + 3 + (n + 1) :=
  (row_calls2 g s i deep n f w hs hi hp hn HF hgood).mono fun e w' hr => by rw [h] at hr; exact hr
/-- What is still to be read: a row, and bars. -/
def nextRow (f : Nat → Except Nat (Rx × Nat)) (t : List Nat) (k j : Nat) (l : List Rx) : Except Nat (List Rx × Nat) :=
  match Rx.pRow f t j with
  | .error e => .error e
  | .ok (x, j1) => Rx.pBars f t k j1 (l ++ [x])
theorem patOf_next (f : Nat → Except Nat (Rx × Nat)) (t : List Nat) (i : Nat) : patOf f t i = mkOf .either (nextRow f t (t.length + 1) i []) := by
  unfold patOf nextRow
  cases Rx.pRow f t i with
  | error e => rfl
  | ok x => rfl
theorem nextRow_more {f : Nat → Except Nat (Rx × Nat)} {t : List Nat} {k j j1 : Nat} {l : List Rx} {x : Rx} (h : Rx.pRow f t j = .ok (x, j1)) (hb : t[j1]? = some 124) : nextRow f t (k + 1) j l = nextRow f t k (j1 + 1) (l ++ [x]) := by
  conv => lhs; unfold nextRow
  rw [h]
  simp only [Rx.pBars]
  rw [if_pos hb]
  unfold nextRow
  cases Rx.pRow f t (j1 + 1) with
  | error e => rfl
  | ok y => rfl
theorem nextRow_last {f : Nat → Except Nat (Rx × Nat)} {t : List Nat} {k j j1 : Nat} {l : List Rx} {x : Rx} (h : Rx.pRow f t j = .ok (x, j1)) (hb : t[j1]? ≠ some 124) : nextRow f t (k + 1) j l = .ok (l ++ [x], j1) := by
  unfold nextRow
  rw [h]
  simp only [Rx.pBars]
  rw [if_neg hb]
theorem nextRow_err {f : Nat → Except Nat (Rx × Nat)} {t : List Nat} {k j er : Nat} {l : List Rx} (h : Rx.pRow f t j = .error er) : nextRow f t k j l = .error er := by
  unfold nextRow
  rw [h]
/-- The state at the head of a pattern's loop. -/
def PI (g B nb n : Nat) (s : ByteArray) (deep : Int) (f : Nat → Except Nat (Rx × Nat)) (R : Except Nat (List Rx × Nat)) (k : Nat) (kv : Value) (us : List Tr) (wr : World) : Prop :=
  (∃ (j : Nat) (l : List Rx), RS wr g s (j : Nat) deep 0 ∧ j ≤ s.size ∧ Nodes wr (NS B nb kv) us l ∧ s.size < j + k ∧ nextRow f (bys s) k j l = R) ∨ (∃ (er a : Nat) (d : Int), RS wr g s (a : Nat) d er ∧ er ≠ 0 ∧ a ≤ s.size + 3 + (n + 1) ∧ R = .error er)
theorem Nodes.chg {B nb g : Nat} {kv : Value} {us : List Tr} {l : List Rx} {w w' : World} (h : Nodes w (NS B nb kv) us l) (hc : Chg (· = g) w w') (hg : g < B) : Nodes w' (NS B nb kv) us l :=
  h.frame fun k hk hS => ⟨hc.block k hk (by have := hS.1; omega), hS⟩
theorem RS.castd {w : World} {g : Nat} {s : ByteArray} {a d d' b : Int} (h : RS w g s a d b) (e : d = d') : RS w g s a d' b := e ▸ h

set_option maxRecDepth 100000 in
set_option maxHeartbeats 8000000 in
theorem pattern_step (g : Nat) (s : ByteArray) (i : Nat) (deep : Int) (n : Nat) (f : Nat → Except Nat (Rx × Nat)) (w : World) (hd0 : 0 ≤ deep) (hd : deep ≤ 7) (hs : s.size ≤ 64) (hi : i ≤ s.size) (hp : RS w g s i deep 0) (hn8 : n ≤ 8) (HF : RecR g s (deep + 1) n f) (hgood : Rx.Good f) :
    Calls Tryd.prog 32 #[.pointer (some ⟨g, 0, none⟩)] w (NRes g s deep (n + 1) w (patOf f (bys s) i)) := by
  have hg := hp.lt
  obtain ⟨i0, hinf, hz0, hz1, hz2⟩ := info_parts Tryd.infoNode
  obtain ⟨R, hR0⟩ : ∃ R, nextRow f (bys s) ((bys s).length + 1) i [] = R := ⟨_, rfl⟩
  rw [patOf_next, hR0]
  rw [bys_len] at hR0
  have HR := Lib.hid hR0
  clear hR0
  have hpl0 := Lib.hid ((hp.alloc (.cells #[.string ⟨#[]⟩, .slice none 0 0, .slice none 0 0] 50)).alloc (.cells #[.string ⟨#[101, 105, 116, 104, 101, 114]⟩, .slice none 0 0, .slice none 0 0] 50))
  have hgB : ¬ w.heap.size = g := by omega
  have hgB2 : ¬ g = w.heap.size := by omega
  have q2 := hpl0.out.c2
  have qf2 := hpl0.out.f 2
  have hpl1 := Lib.hid ((((hp.set2 (deep + 1)).alloc (.cells #[.string ⟨#[]⟩, .slice none 0 0, .slice none 0 0] 50)).alloc (.cells #[.string ⟨#[101, 105, 116, 104, 101, 114]⟩, .slice none 0 0, .slice none 0 0] 50)))
  have q3 := hpl1.out.c2
  have h8 : decide ((8 : Int) < deep + 1) = false := decide_eq_false (by omega)
  go_enter Tryd.func32, Tryd.ntmps32
  go_wp2
  go_loopg [] (s.size + 1) (fun k wr => ∃ (kv : Value) (us : List Tr), us.length + k ≤ s.size + 1 ∧ RW w.heap.size (w.heap.size + 1) ⟨#[101, 105, 116, 104, 101, 114]⟩ kv us wr ∧ Hid (Chg (· = g) w wr) ∧ PI g w.heap.size (w.heap.size + 1) n s (deep + 1) f R k kv us wr)
  case atStart => exact ⟨.slice none 0 0, [], by simp, RW.start (w.setCell ⟨g, 2, none⟩ (.int .i64 (deep + 1))) _ _ (size_set _ _ _).symm (.cells #[.string ⟨#[101, 105, 116, 104, 101, 114]⟩, .slice none 0 0, .slice none 0 0] 50) rfl, Lib.hid (by repeat (first | exact Chg.refl _ _ | with_reducible apply Chg.drewN | with_reducible apply Chg.drew | with_reducible apply Chg.setG | with_reducible apply Chg.alloc | with_reducible refine Chg.trans ?_ hc2)), .inl ⟨i, [], hpl1.out, hi, Nodes.nil _ _, by omega, HR.out⟩⟩
  case round =>
    obtain ⟨kv, us, hlen, hrw, hch, hri⟩ := hrel
    obtain ⟨wo, rfl⟩ : ∃ m : World, m = wr := ⟨_, rfl⟩
    obtain ⟨gk0, rfl⟩ : ∃ m : Nat, m = gk := ⟨_, rfl⟩
    clear hp HR hpl0 hpl1 q2 q3 qf2
    have hzo := hch.out.size
    have hnb := hrw.box.lt
    obtain ⟨kA, kN, kC, rfl⟩ := hrw.isSl
    have HRW := Lib.hid hrw
    have v2 := hrw.box.c2
    have vf := hrw.box.f 2
    have HOWN := Lib.hid (fun k hk => (hrw.own.lt k hk).1 : ∀ k, (Value.slice kA kN kC).ownBlock = some k → w.heap.size ≤ k)
    rcases hri with ⟨j, l, hp, hj, hN, hsz, hL⟩ | ⟨er, a, d, hp, hne, ha, hL⟩
    · clear hrw
      have HN := Lib.hid hN
      have HL := Lib.hid hL
      have hpl := Lib.hid hp
      have c3 := hp.c3
      clear hN hL
      obtain ⟨k0, rfl⟩ : ∃ m : Nat, m + 1 = gk0 := ⟨gk0 - 1, by omega⟩
      cases hpa : Rx.pRow f (bys s) j with
      | error er =>
        have HE : Hid (R = .error er) := Lib.hid (by rw [← HL.out]; exact nextRow_err hpa)
        have HPA := Lib.hid hpa
        clear hpa HL
        go_wp2
        go_region_law (first | (go_simp; go_at_call 50; ((refine (row_err2 g s j (deep + 1) n f _ hs hj (by first | exact hpl.out | exact hpl.out.drewN _ | exact hpl.out.drew) hn8 HF hgood HPA.out).mono ?_); rintro e w2 ⟨hc2, ⟨K2, h2, k2, rfl, ⟨hA, hN, hC, rfl⟩, ⟨qA, qN, qC, rfl⟩⟩, hne, a2, d2, hp2, ha2⟩; have hzc2 : wo.heap.size ≤ w2.heap.size := hc2.size; have hgw2 : g < w2.heap.size := hp2.lt; have hRW2 := (HRW.out.chg (g := g) (w' := w2) (by repeat (first | exact Chg.refl _ _ | with_reducible apply Chg.drewN | with_reducible apply Chg.drew | with_reducible apply Chg.setG | with_reducible apply Chg.alloc | with_reducible refine Chg.trans ?_ hc2)) (by omega) (by omega)); have x2 := hRW2.box.c2; have xf := hRW2.box.f 2; have x2a := (hRW2.box.alloc (.cells #[.string K2, .slice hA hN hC, .slice qA qN qC] 50)).c2)) | (refine step_append_lies _ rfl (.tmp 26) (.tmp 29) 48 rfl w.heap.size 50 i0 (.agg #[.string ⟨#[]⟩, .slice none 0 0, .slice none 0 0]) 3 64 Tryd.underlying48 hinf hz0 hz1 hz2 rfl (by decide) (.slice kA kN kC) us.length (flat us) rfl (by exact (HRW.out.chg (g := g) (by repeat (first | exact Chg.refl _ _ | with_reducible apply Chg.drewN | with_reducible apply Chg.drew | with_reducible apply Chg.setG | with_reducible apply Chg.alloc | with_reducible refine Chg.trans ?_ hc2)) (by omega) (by omega)).own) ⟨_, 0, none⟩ 1 1 [.string K2, .slice hA hN hC, .slice qA qN qC] rfl rfl (World.news_of_block (blk_new' _ _ _ (by simp))) (fun u hu => news3 ⟨_, _, _, rfl⟩ ⟨_, _, _, rfl⟩ hu) (by decide) (by unfold maxLen; omega) (by omega) (by simp; omega) _ rfl (fun g1 cap w3 hown3 hgr3 hor3 hlt3 => ?_); have hq3 : NX w3 (w.heap.size + 1) ⟨#[101, 105, 116, 104, 101, 114]⟩ (.slice none 0 0) (.slice kA kN kC) := (by refine blk_grown ?_ hgr3 HRW.out.kn; exact (HRW.out.chg (g := g) (by repeat (first | exact Chg.refl _ _ | with_reducible apply Chg.drewN | with_reducible apply Chg.drew | with_reducible apply Chg.setG | with_reducible apply Chg.alloc | with_reducible refine Chg.trans ?_ hc2)) (by omega) (by omega)).box); have q32 := hq3.c2; have q3f := hq3.f 2))
        all_goals
          have hRWA := HRW.out.push (g := g) (u := (K2, .slice hA hN hC, .slice qA qN qC)) (by repeat (first | exact Chg.refl _ _ | with_reducible apply Chg.drewN | with_reducible apply Chg.drew | with_reducible apply Chg.setG | with_reducible apply Chg.alloc | with_reducible refine Chg.trans ?_ hc2)) (by omega) (by omega) hown3 hgr3 hor3
          have hpA := rw_rs (nb := w.heap.size + 1) ((hp2.drewN 0).alloc (.cells #[.string K2, .slice hA hN hC, .slice qA qN qC] 50)) hgr3 HOWN.out hg (by omega) (.slice (some ⟨g1, 0, none⟩) (us.length + 1) cap)
          have hchA := Lib.hid (rw_chg (nb := w.heap.size + 1) (hch.out.trans (by repeat (first | exact Chg.refl _ _ | with_reducible apply Chg.drewN | with_reducible apply Chg.drew | with_reducible apply Chg.setG | with_reducible apply Chg.alloc | with_reducible refine Chg.trans ?_ hc2))) hgr3 HOWN.out (by omega) (.slice (some ⟨g1, 0, none⟩) (us.length + 1) cap))
          generalize hWA : w3.setCell ⟨w.heap.size + 1, 2, none⟩ (.slice (some ⟨g1, 0, none⟩) (us.length + 1) cap) = wA at *
          have a1 := hpA.c1
          have a2' := hpA.c2
          have a3 := hpA.c3
          have af1 := hpA.f 1
          have af2 := hpA.f 2
          have rr0 := hRWA.rb.c0
          have rr1 := hRWA.rb.c1
          have rr2 := hRWA.rb.c2
          have rf0 := hRWA.rb.f 0
          have rf1 := hRWA.rb.f 1
          have rf2 := hRWA.rb.f 2
          have x0 := hRWA.box.c0
          have x1 := hRWA.box.c1
          have x2' := hRWA.box.c2
          have hgn : ¬ g = w.heap.size + 1 := by omega
          have hgn2 : ¬ w.heap.size + 1 = g := by omega
          have her : ((er : Int) == 0) = false := by simp; omega
          by_cases h124 : (bys s)[a2]? = some 124
          · have hal : a2 < s.size := by have := (List.getElem?_eq_some_iff.1 h124).1; rwa [bys_len] at this
            have b124 : (nx s a2 != 124) = false := congrArg (!·) ((nx_eq s a2 124).trans (decide_eq_true h124))
            clear h124
            go_wp2_with (go_at_call 51; ((refine (next_calls2 g s a2 d2 er _ hs (by exact hpA)).mono ?_); rintro e w5 ⟨rfl, ⟨n5, rfl⟩, -⟩))
            go_roundg k0
            case measure => omega
            case rel => exact ⟨_, us ++ [(K2, .slice hA hN hC, .slice qA qN qC)], by simp; omega, hRWA.chg (g := g) (by repeat (first | exact Chg.refl _ _ | with_reducible apply Chg.drewN | with_reducible apply Chg.drew | with_reducible apply Chg.setG | with_reducible apply Chg.alloc | with_reducible refine Chg.trans ?_ hc2)) (by omega) (by omega), Lib.hid (hchA.out.trans (by repeat (first | exact Chg.refl _ _ | with_reducible apply Chg.drewN | with_reducible apply Chg.drew | with_reducible apply Chg.setG | with_reducible apply Chg.alloc | with_reducible refine Chg.trans ?_ hc2))), .inr ⟨er, a2 + 1, d2, ((hpA.drewN _).set1 _).cast (by omega), hne, by omega, HE.out⟩⟩
          · have b124 : (nx s a2 != 124) = true := congrArg (!·) ((nx_eq s a2 124).trans (decide_eq_false h124))
            clear h124
            go_wp2_with (go_at_call 51; ((refine (next_calls2 g s a2 d2 er _ hs (by exact hpA)).mono ?_); rintro e w5 ⟨rfl, ⟨n5, rfl⟩, -⟩))
            refine bodyPost_ret (v := .agg #[.string ⟨#[101, 105, 116, 104, 101, 114]⟩, .slice none 0 0, .slice (some ⟨g1, 0, none⟩) (us.length + 1) cap]) (by simp [results, Tryd.results32, go_sem, rr0, rr1, rr2, hgB, hgB2]) rfl ?_
            rw [HE.out]
            exact nres_err hg (hchA.out.trans (by repeat (first | exact Chg.refl _ _ | with_reducible apply Chg.drewN | with_reducible apply Chg.drew | with_reducible apply Chg.setG | with_reducible apply Chg.alloc | with_reducible refine Chg.trans ?_ hc2))) (isSl _ _ _) (isSl _ _ _) hne (a := a2) ((hpA.drewN _).set2 _) (by omega)
      | ok xj =>
        obtain ⟨x, j1⟩ := xj
        have hadv := (Rx.pRow_adv hgood hpa).1
        have HPA := Lib.hid hpa
        clear hpa
        go_wp2
        go_region_law (first | (go_simp; go_at_call 50; ((refine (row_ok2 g s j (deep + 1) n f _ hs hj (by first | exact hpl.out | exact hpl.out.drewN _ | exact hpl.out.drew) hn8 HF hgood HPA.out).mono ?_); rintro e w2 ⟨hc2, K2, h2, k2, rfl, hv2, hp2, hj2⟩; obtain ⟨hA, hN, hC, rfl⟩ := hv2.one.2.1; obtain ⟨qA, qN, qC, rfl⟩ := hv2.one.2.2; have HV2 := Lib.hid hv2; clear hv2; have hzc2 : wo.heap.size ≤ w2.heap.size := hc2.size; have hgw2 : g < w2.heap.size := hp2.lt; have hRW2 := (HRW.out.chg (g := g) (w' := w2) (by repeat (first | exact Chg.refl _ _ | with_reducible apply Chg.drewN | with_reducible apply Chg.drew | with_reducible apply Chg.setG | with_reducible apply Chg.alloc | with_reducible refine Chg.trans ?_ hc2)) (by omega) (by omega)); have x2 := hRW2.box.c2; have xf := hRW2.box.f 2; have x2a := (hRW2.box.alloc (.cells #[.string K2, .slice hA hN hC, .slice qA qN qC] 50)).c2)) | (refine step_append_lies _ rfl (.tmp 26) (.tmp 29) 48 rfl w.heap.size 50 i0 (.agg #[.string ⟨#[]⟩, .slice none 0 0, .slice none 0 0]) 3 64 Tryd.underlying48 hinf hz0 hz1 hz2 rfl (by decide) (.slice kA kN kC) us.length (flat us) rfl (by exact (HRW.out.chg (g := g) (by repeat (first | exact Chg.refl _ _ | with_reducible apply Chg.drewN | with_reducible apply Chg.drew | with_reducible apply Chg.setG | with_reducible apply Chg.alloc | with_reducible refine Chg.trans ?_ hc2)) (by omega) (by omega)).own) ⟨_, 0, none⟩ 1 1 [.string K2, .slice hA hN hC, .slice qA qN qC] rfl rfl (World.news_of_block (blk_new' _ _ _ (by simp))) (fun u hu => news3 ⟨_, _, _, rfl⟩ ⟨_, _, _, rfl⟩ hu) (by decide) (by unfold maxLen; omega) (by omega) (by simp; omega) _ rfl (fun g1 cap w3 hown3 hgr3 hor3 hlt3 => ?_); have hq3 : NX w3 (w.heap.size + 1) ⟨#[101, 105, 116, 104, 101, 114]⟩ (.slice none 0 0) (.slice kA kN kC) := (by refine blk_grown ?_ hgr3 HRW.out.kn; exact (HRW.out.chg (g := g) (by repeat (first | exact Chg.refl _ _ | with_reducible apply Chg.drewN | with_reducible apply Chg.drew | with_reducible apply Chg.setG | with_reducible apply Chg.alloc | with_reducible refine Chg.trans ?_ hc2)) (by omega) (by omega)).box); have q32 := hq3.c2; have q3f := hq3.f 2))
        all_goals
          have hRWA := HRW.out.push (g := g) (u := (K2, .slice hA hN hC, .slice qA qN qC)) (by repeat (first | exact Chg.refl _ _ | with_reducible apply Chg.drewN | with_reducible apply Chg.drew | with_reducible apply Chg.setG | with_reducible apply Chg.alloc | with_reducible refine Chg.trans ?_ hc2)) (by omega) (by omega) hown3 hgr3 hor3
          have hpA := rw_rs (nb := w.heap.size + 1) ((hp2.drewN 0).alloc (.cells #[.string K2, .slice hA hN hC, .slice qA qN qC] 50)) hgr3 HOWN.out hg (by omega) (.slice (some ⟨g1, 0, none⟩) (us.length + 1) cap)
          have hchA := Lib.hid (rw_chg (nb := w.heap.size + 1) (hch.out.trans (by repeat (first | exact Chg.refl _ _ | with_reducible apply Chg.drewN | with_reducible apply Chg.drew | with_reducible apply Chg.setG | with_reducible apply Chg.alloc | with_reducible refine Chg.trans ?_ hc2))) hgr3 HOWN.out (by omega) (.slice (some ⟨g1, 0, none⟩) (us.length + 1) cap))
          have hNA := Lib.hid (HN.out.push (n := us.length + 1) (cap := cap) HRW.out (g := g) (by repeat (first | exact Chg.refl _ _ | with_reducible apply Chg.drewN | with_reducible apply Chg.drew | with_reducible apply Chg.setG | with_reducible apply Chg.alloc | with_reducible refine Chg.trans ?_ hc2)) hg (by omega) (HV2.out.frame fun m hm hS => ⟨Below.heap_alloc _ _ _ hm, by first | exact hS | (simp at hS; exact hS)⟩) hgr3 hor3 (.slice (some ⟨g1, 0, none⟩) (us.length + 1) cap))
          generalize hWA : w3.setCell ⟨w.heap.size + 1, 2, none⟩ (.slice (some ⟨g1, 0, none⟩) (us.length + 1) cap) = wA at *
          have a1 := hpA.c1
          have a2' := hpA.c2
          have a3 := hpA.c3
          have af1 := hpA.f 1
          have af2 := hpA.f 2
          have rr0 := hRWA.rb.c0
          have rr1 := hRWA.rb.c1
          have rr2 := hRWA.rb.c2
          have rf0 := hRWA.rb.f 0
          have rf1 := hRWA.rb.f 1
          have rf2 := hRWA.rb.f 2
          have x0 := hRWA.box.c0
          have x1 := hRWA.box.c1
          have x2' := hRWA.box.c2
          have hgn : ¬ g = w.heap.size + 1 := by omega
          have hgn2 : ¬ w.heap.size + 1 = g := by omega
          by_cases h124 : (bys s)[j1]? = some 124
          · have hal : j1 < s.size := by have := (List.getElem?_eq_some_iff.1 h124).1; rwa [bys_len] at this
            have HL2 := Lib.hid ((nextRow_more (k := k0) (l := l) HPA.out h124).symm.trans HL.out)
            have b124 : (nx s j1 != 124) = false := congrArg (!·) ((nx_eq s j1 124).trans (decide_eq_true h124))
            clear h124
            go_wp2_with (go_at_call 51; ((refine (next_calls2 g s j1 (deep + 1) 0 _ hs (by exact hpA)).mono ?_); rintro e w5 ⟨rfl, ⟨n5, rfl⟩, -⟩))
            go_roundg k0
            case measure => omega
            case rel => exact ⟨_, us ++ [(K2, .slice hA hN hC, .slice qA qN qC)], by simp; omega, hRWA.chg (g := g) (by repeat (first | exact Chg.refl _ _ | with_reducible apply Chg.drewN | with_reducible apply Chg.drew | with_reducible apply Chg.setG | with_reducible apply Chg.alloc | with_reducible refine Chg.trans ?_ hc2)) (by omega) (by omega), Lib.hid (hchA.out.trans (by repeat (first | exact Chg.refl _ _ | with_reducible apply Chg.drewN | with_reducible apply Chg.drew | with_reducible apply Chg.setG | with_reducible apply Chg.alloc | with_reducible refine Chg.trans ?_ hc2))), .inl ⟨j1 + 1, l ++ [x], ((hpA.drewN _).set1 _).cast (by omega), by omega, hNA.out.chg (g := g) (by repeat (first | exact Chg.refl _ _ | with_reducible apply Chg.drewN | with_reducible apply Chg.drew | with_reducible apply Chg.setG | with_reducible apply Chg.alloc | with_reducible refine Chg.trans ?_ hc2)) hg, by omega, HL2.out⟩⟩
          · have HL2 := Lib.hid ((nextRow_last (k := k0) (l := l) HPA.out h124).symm.trans HL.out)
            have b124 : (nx s j1 != 124) = true := congrArg (!·) ((nx_eq s j1 124).trans (decide_eq_false h124))
            clear h124
            go_wp2_with (go_at_call 51; ((refine (next_calls2 g s j1 (deep + 1) 0 _ hs (by exact hpA)).mono ?_); rintro e w5 ⟨rfl, ⟨n5, rfl⟩, -⟩))
            refine bodyPost_ret (v := .agg #[.string ⟨#[101, 105, 116, 104, 101, 114]⟩, .slice none 0 0, .slice (some ⟨g1, 0, none⟩) (us.length + 1) cap]) (by simp [results, Tryd.results32, go_sem, rr0, rr1, rr2, hgB, hgB2]) rfl ?_
            rw [← HL2.out]
            exact nres_ok hg (hchA.out.trans (by repeat (first | exact Chg.refl _ _ | with_reducible apply Chg.drewN | with_reducible apply Chg.drew | with_reducible apply Chg.setG | with_reducible apply Chg.alloc | with_reducible refine Chg.trans ?_ hc2))) ((hRWA.done (x := .either (l ++ [x])) hNA.out rfl (fun P e => by cases e) rfl (by omega)).chg (M := (· = g)) (by repeat (first | exact Chg.refl _ _ | with_reducible apply Chg.drewN | with_reducible apply Chg.drew | with_reducible apply Chg.setG | with_reducible apply Chg.alloc | with_reducible refine Chg.trans ?_ hc2)) (fun k hk hS => by omega) (fun k hk hS => hS)) (((hpA.drewN _).set2 _).castd (by omega)) hj2
    · have her : ((er : Int) == 0) = false := by simp; omega
      have c3 := hp.c3
      have c2 := hp.c2
      have f2 := hp.f 2
      have rr0 := hrw.rb.c0
      have rr1 := hrw.rb.c1
      have rr2 := hrw.rb.c2
      have rf0 := hrw.rb.f 0
      have rf1 := hrw.rb.f 1
      have rf2 := hrw.rb.f 2
      have x0 := hrw.box.c0
      have x1 := hrw.box.c1
      have hgn : ¬ g = w.heap.size + 1 := by omega
      have hgn2 : ¬ w.heap.size + 1 = g := by omega
      have HE := Lib.hid hL
      clear hL hrw
      go_wp2
      refine bodyPost_ret (v := .agg #[.string ⟨#[101, 105, 116, 104, 101, 114]⟩, .slice none 0 0, .slice kA kN kC]) (by simp [results, Tryd.results32, go_sem, rr0, rr1, rr2, hgB, hgB2]) rfl ?_
      rw [HE.out]
      exact nres_err hg (hch.out.trans (by repeat (first | exact Chg.refl _ _ | with_reducible apply Chg.drewN | with_reducible apply Chg.drew | with_reducible apply Chg.setG | with_reducible apply Chg.alloc | with_reducible refine Chg.trans ?_ hc2))) (isSl _ _ _) (isSl _ _ _) hne (a := a) (hp.set2 _) (by omega)
end Go.Proofs.YtmlmnckhiianhaaDoor
