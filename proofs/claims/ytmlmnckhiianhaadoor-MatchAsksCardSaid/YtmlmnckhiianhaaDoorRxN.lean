/- Match, walked: it holds just if the automaton runs over the whole text to its end. -/
import Derived.Test.YtmlmnckhiianhaaDoorRxM
import Derived.Deep.RegionWith
namespace Go.Proofs.YtmlmnckhiianhaaDoor
set_option maxRecDepth 100000
open Go.RowKit
set_option linter.unusedVariables false
set_option linter.unusedSimpArgs false

theorem Tryd.infoBool : (Tryd.prog.info? 4).map (fun i => (i.zero, i.size, i.bytes)) = some (some (.bool false), 1, 1) := by kernel_rfl

theorem Bools.made (w : World) (n : Nat) : Bools (w.alloc (.cells (madeCells #[.bool false] n) 4)) w.heap.size (List.replicate n false) := by
  unfold Bools
  rw [blk_new]
  congr 2
  apply Array.ext'
  rw [toList_madeCells_one]
  simp

set_option maxHeartbeats 2000000 in
theorem Match_zero (s : ByteArray) (w : World) : Calls Tryd.prog 40 #[.agg #[.slice none 0 0], .string s] w fun e w' => e = .returned (.bool false) ∧ Below w.heap.size w w' := by
  go_enter Tryd.func40, Tryd.ntmps40
  go_wp2_with fail
  go_ret
  exact ⟨rfl, (Below.refl _ _).alloc (Nat.le_refl _) _⟩

/-- A state that eats has a next one. -/
def EatOK (l : List St) : Prop := ∀ (k : Nat) (st : St), l[k]? = some st → st.eat = true → ∃ m, st.next = [m]
/-- The states of a set. -/
def Ins (bs : List Bool) (k : Nat) : Prop := bs[k]? = some true

theorem ReachR.first {l : List St} {n i : Nat} {bs : List Bool} (h : ReachR l (List.replicate n false) i bs) (k : Nat) : Ins bs k ↔ Run l i [] k := by
  obtain ⟨h1, h2, h3, h4⟩ := h
  have hno : ∀ k : Nat, (List.replicate n false)[k]? ≠ some true := fun k e => by
    rw [List.getElem?_replicate] at e
    split at e <;> simp at e
  exact ⟨fun hk => (h4 k hk (hno k)).1, fun hr => Run.closed (P := Ins bs) hr h3 (fun a ha m hm => (h4 a ha (hno a)).2 m hm)⟩

/-- The next set of states, in the making: behind the states below k. -/
def Mid (l : List St) (start : Nat) (u : List Nat) (c : Nat) (bs nb : List Bool) (k : Nat) : Prop :=
  nb.length = bs.length ∧ (∀ a, Ins nb a → ∀ m, m ∈ epsOf l a → Ins nb m) ∧ (∀ a, Ins nb a → Run l start (u ++ [c]) a) ∧
  ∀ (a : Nat) (st : St) (m : Nat), a < k → Ins bs a → l[a]? = some st → st.eat = true → st.set c = true → st.next = [m] → Ins nb m
theorem Mid.start {l : List St} {start : Nat} {u : List Nat} {c : Nat} {bs : List Bool} {n : Nat} (h : bs.length = n) : Mid l start u c bs (List.replicate n false) 0 := by
  have hno : ∀ k : Nat, ¬ Ins (List.replicate n false) k := fun k e => by
    unfold Ins at e
    rw [List.getElem?_replicate] at e
    split at e <;> simp at e
  exact ⟨by simp [h], fun a ha => absurd ha (hno a), fun a ha => absurd ha (hno a), fun a st m ha => by omega⟩
theorem Mid.skip {l : List St} {start : Nat} {u : List Nat} {c : Nat} {bs nb : List Bool} {k : Nat} (h : Mid l start u c bs nb k) (hk : ¬ (Ins bs k ∧ ∃ st, l[k]? = some st ∧ st.eat = true ∧ st.set c = true)) : Mid l start u c bs nb (k + 1) := by
  obtain ⟨h1, h2, h3, h4⟩ := h
  refine ⟨h1, h2, h3, fun a st m ha hb hl he hc hn => ?_⟩
  by_cases e : a = k
  · subst e; exact absurd ⟨hb, st, hl, he, hc⟩ hk
  · exact h4 a st m (by omega) hb hl he hc hn
theorem Mid.take {l : List St} {start : Nat} {u : List Nat} {c : Nat} {bs nb nb' : List Bool} {k m : Nat} {st : St} (h : Mid l start u c bs nb k) (hb : Ins bs k) (hr : ∀ a, Ins bs a → Run l start u a) (hl : l[k]? = some st) (he : st.eat = true) (hc : st.set c = true) (hn : st.next = [m])
    (hR : ReachR l nb m nb') : Mid l start u c bs nb' (k + 1) := by
  obtain ⟨h1, h2, h3, h4⟩ := h
  obtain ⟨r1, r2, r3, r4⟩ := hR
  have hrun : Run l start (u ++ [c]) m := Run.append (hr k hb) (.eat hl he hc hn (.nil m))
  refine ⟨r1.trans h1, fun a ha x hx => ?_, fun a ha => ?_, fun a st' x ha hb' hl' he' hc' hn' => ?_⟩
  · by_cases hk : nb[a]? = some true
    · exact r2 _ (h2 a hk x hx)
    · exact (r4 a ha hk).2 x hx
  · by_cases hk : nb[a]? = some true
    · exact h3 a hk
    · have := Run.append hrun (r4 a ha hk).1
      simpa using this
  · by_cases e : a = k
    · subst e
      rw [hl] at hl'
      injection hl' with hl'
      subst hl'
      rw [hn] at hn'
      injection hn' with hn'
      subst hn'
      exact r3
    · exact r2 _ (h4 a st' x (by omega) hb' hl' he' hc' hn')
theorem Mid.done {l : List St} {start : Nat} {u : List Nat} {c : Nat} {bs nb : List Bool} {k : Nat} (hk : bs.length ≤ k) (hE : EatOK l) (h : Mid l start u c bs nb k) (hr : ∀ a, Ins bs a ↔ Run l start u a) (a : Nat) : Ins nb a ↔ Run l start (u ++ [c]) a := by
  obtain ⟨h1, h2, h3, h4⟩ := h
  refine ⟨h3 a, fun hrun => ?_⟩
  obtain ⟨b, st, m, ms, x1, x2, x3, x4, x5, x6⟩ := hrun.snoc
  obtain ⟨m', hm'⟩ := hE b st x2 x3
  rw [hm'] at x5
  injection x5 with x5 _
  subst x5
  have hb := (hr b).2 x1
  have hbl := (List.getElem?_eq_some_iff.1 hb).1
  exact Run.closed (P := Ins nb) x6 (h4 b st m' (by omega) hb x2 x3 x4 hm') h2

set_option maxHeartbeats 4000000 in
theorem Match_calls (l : List St) (hwf : WF l) (hE : EatOK l) (hl0 : 0 < l.length) (hll : l.length ≤ 100000) (v : Value) (s : ByteArray) (w : World) (hs : s.size ≤ 1000000000) (hv : RegV w (fun _ => True) v l) :
    Calls Tryd.prog 40 #[.agg #[v], .string s] w fun e w' => (∃ b : Bool, e = .returned (.bool b) ∧ (b = true ↔ Run l (l.length - 1) (bys s) 0)) ∧ Below w.heap.size w w' := by
  obtain ⟨i0, hinf, hz0, hz1, hz2⟩ := info_parts Tryd.infoBool
  have hv1 : RegV w (fun k => k < w.heap.size) v l := hv.frame fun k hk _ => ⟨rfl, hk⟩
  obtain ⟨g, cv, hvv, hlc, _, hcells⟩ := hv1.open
  subst hvv
  have HV := Lib.hid hv1
  have HC := Lib.hid hcells
  have hl1 : ((l.length : Int) == 0) = false := eqb_no (k := 0) (by omega)
  have hby : i0.bytes * l.length ≤ 281474976710656 := by rw [hz2]; omega
  clear hv hv1 hcells
  go_enter Tryd.func40, Tryd.ntmps40
  have hsub : ((l.length : Int) - 1) = ((l.length - 1 : Nat) : Int) := by omega
  have HSUB := Lib.hid hsub
  clear hsub
  have htb : (w.alloc (.cells #[.slice (some ⟨g, 0, none⟩) l.length cv] 59)).heap.size = w.heap.size + 1 := by simp
  have HTB := Lib.hid htb
  clear htb
  go_wp2_with (first | (at_make; refine wpList_make_row _ rfl (.tmp 17) (.tmp 17) 47 rfl 4 i0 (.bool false) Tryd.underlying47 hinf hz0 hz1 rfl .i64 .i64 l.length rfl rfl hby (by omega) ?_) | (go_at_call 54; rw [HSUB.out]; refine (reach_calls l hwf hll (w.heap.size + 1) _ _ (List.replicate l.length false) (l.length - 1) l.length _ (Nat.le_refl _) (by simp) (by omega) (by have := Bools.made (w.alloc (.cells #[.slice (some ⟨g, 0, none⟩) l.length cv] 59)) l.length; rw [HTB.out] at this; exact this) (HV.out.frame fun k hk hS => ⟨by rw [Below.heap_alloc _ _ _ (by rw [HTB.out]; omega), Below.heap_alloc _ _ _ hk], by omega⟩)).mono ?_; rintro e w2 ⟨rfl, bs0, hb0, hR0, hc0⟩; have HR0 := Lib.hid hR0.first; have HL0 := Lib.hid hR0.1; clear hR0))
  have hbox0 : w2.heap[w.heap.size]? = some (.cells #[.slice (some ⟨g, 0, none⟩) l.length cv] 59 (0, 0)) := hc0.blk (blk_alloc (blk_new w _) _) (by simp)
  have hbel0 : Below w.heap.size w w2 := (((Chg.refl (fun k => w.heap.size ≤ k) w).alloc _).alloc _ |>.trans (hc0.mono (fun k _ h => by omega))).below fun k hk h => by omega
  have hl0' : bs0.length = l.length := by rw [HL0.out]; simp
  go_loopg [5, 28] (s.size + 1) (fun k u5 u28 wr => ∃ (i gn : Nat) (bs : List Bool), u28 = .int .i64 (i : Int) ∧ i + k = s.size + 1 ∧ i ≤ s.size ∧ u5 = .slice (some ⟨gn, 0, none⟩) l.length l.length ∧ w.heap.size ≤ gn ∧ Bools wr gn bs ∧ Hid (bs.length = l.length) ∧ Hid (∀ a, Ins bs a ↔ Run l (l.length - 1) ((bys s).take i) a) ∧
    wr.heap[w.heap.size]? = some (.cells #[.slice (some ⟨g, 0, none⟩) l.length cv] 59 (0, 0)) ∧ gn ≠ w.heap.size ∧ Below w.heap.size w wr)
  case atStart => exact ⟨0, w.heap.size + 1, bs0, rfl, by omega, by omega, rfl, by omega, hb0, Lib.hid hl0', Lib.hid (by simpa using HR0.out), hbox0, by omega, hbel0⟩
  case round =>
    obtain ⟨i, gn, bs, rfl, hik, his, rfl, hgn, hb, hbl, hRun, hbox, hgw, hbel⟩ := hrel
    obtain ⟨wo, rfl⟩ : ∃ m : World, m = wr := ⟨_, rfl⟩
    obtain ⟨gk0, rfl⟩ : ∃ m : Nat, m = gk := ⟨_, rfl⟩
    clear hbox0 hbel0 hb0 hl0' hc0 HR0 HL0
    have cbox := (blk_cell (o := 0) hbox).trans rfl
    have zbox := blk_lt hbox
    by_cases hlt : i < s.size
    · go_wp2_with (at_make; refine wpList_make_row _ rfl (.tmp 33) (.tmp 33) 47 rfl 4 i0 (.bool false) Tryd.underlying47 hinf hz0 hz1 rfl .i64 .i64 l.length rfl rfl hby (by omega) ?_)
      have hsi := bys_get s i hlt
      obtain ⟨ch, hch⟩ : ∃ ch, ch = s[i].toNat := ⟨_, rfl⟩
      have hch256 : ch < 256 := by rw [hch]; exact UInt8.toNat_lt _
      have hgx : wo.heap.size ≠ gn := by have := blk_lt hb; omega
      have hgx2 : wo.heap.size ≠ w.heap.size := by omega
      have hws := hbel.size
      have HCH := Lib.hid hch
      have HSI := Lib.hid hsi
      clear hch hsi
      go_loopg [37] (l.length + 1) (fun k u37 wr => ∃ (m : Nat) (nb : List Bool), u37 = .int .i64 (m : Int) ∧ m + k = l.length + 1 ∧ m ≤ l.length ∧ Bools wr wo.heap.size nb ∧ Hid (Mid l (l.length - 1) ((bys s).take i) ch bs nb m) ∧ Bools wr gn bs ∧
        wr.heap[w.heap.size]? = some (.cells #[.slice (some ⟨g, 0, none⟩) l.length cv] 59 (0, 0)) ∧ Below w.heap.size w wr)
      case atStart => exact ⟨0, List.replicate l.length false, rfl, by omega, by omega, Bools.made wo l.length, Lib.hid (Mid.start hbl.out), hb.chg ((Chg.refl (fun _ => False) wo).alloc _) id, blk_alloc hbox _, hbel.alloc hws _⟩
      case round =>
        obtain ⟨m, nb, rfl, hmk, hm, hnb, hMid, hb2, hbox2, hbel2⟩ := hrel
        obtain ⟨wi, rfl⟩ : ∃ m : World, m = wr := ⟨_, rfl⟩
        obtain ⟨k2, rfl⟩ : ∃ m : Nat, m = gk := ⟨_, rfl⟩
        clear hb hbox cbox zbox
        have cbox2 := (blk_cell (o := 0) hbox2).trans rfl
        have zbox2 := blk_lt hbox2
        by_cases hml : m < l.length
        · obtain ⟨st, hst⟩ : ∃ st, l[m]? = some st := ⟨_, List.getElem?_eq_getElem hml⟩
          obtain ⟨b, hbm⟩ : ∃ b, bs[m]? = some b := ⟨_, List.getElem?_eq_getElem (by rw [hbl.out]; exact hml)⟩
          obtain ⟨q, nx, e0, e1, e2, e3, e4, e5, e6, e7⟩ := HC.out m st hst
          have cb := hb2.c hbm
          have bel := fun {p : Addr} {u : Value} (h : w.cell? p = some u) => (hbel2.cell (World.block_lt_of_cell? _ _ h)).trans h
          have d0 := bel e0
          have d1 := bel e1
          have d2 := bel e2
          have d3 := bel e3
          have d4 := bel e4
          have d5 := bel e5
          have zg := World.block_lt_of_cell? _ _ d0
          obtain ⟨A, cn, hnx, hcn, hnxt⟩ := e7.open
          subst hnx
          have hrange : wi.rangeAt g (m * 6) [.int .u64 (q 0), .int .u64 (q 1), .int .u64 (q 2), .int .u64 (q 3), .bool st.eat, .slice A st.next.length cn] := fun j v hj => by
            match j, hj with
            | 0, hj => simp at hj; subst hj; exact d0
            | 1, hj => simp at hj; subst hj; exact d1
            | 2, hj => simp at hj; subst hj; exact d2
            | 3, hj => simp at hj; subst hj; exact d3
            | 4, hj => simp at hj; subst hj; exact d4
            | 5, hj => simp at hj; subst hj; exact d5
          have HRG := Lib.hid hrange
          have HST := Lib.hid hst
          have HBM := Lib.hid hbm
          have HNX := Lib.hid hnxt
          have HQ := Lib.hid e6
          have hmI : (m : Int) < l.length := by omega
          clear hrange hst hbm hnxt e0 e1 e2 e3 e4 e5 e6 e7 bel d0 d1 d2 d3 d4 d5
          have hsz2 := hbel2.size
          cases b with
          | false =>
            go_wp2_with (refine wpList_load_mid rfl _ (.tmp 45) rfl g (m * 6) rfl _ _ HRG.out Tryd.underlying89 rfl (by kernel_rfl) ?_)
            go_quiet (fail)
            go_wp2
            go_roundg (k2 - 1)
            case measure => omega
            case rel => exact ⟨m + 1, nb, by go_num, by omega, by omega, hnb.chg (((Chg.refl (fun _ => False) wi).alloc _).drewN _) id, Lib.hid (hMid.out.skip (fun h => by have := h.1; unfold Ins at this; rw [HBM.out] at this; cases this)), hb2.chg (((Chg.refl (fun _ => False) wi).alloc _).drewN _) id, blk_alloc hbox2 _, (((Chg.of_below (M := fun _ => False) hbel2).alloc _).drewN _).below (fun _ _ h => h)⟩
          | true =>
            cases hea : st.eat with
            | false =>
              go_wp2_with (refine wpList_load_mid rfl _ (.tmp 45) rfl g (m * 6) rfl _ _ HRG.out Tryd.underlying89 rfl (by kernel_rfl) ?_)
              go_quiet (fail)
              go_wp2
              go_roundg (k2 - 1)
              case measure => omega
              case rel => exact ⟨m + 1, nb, by go_num, by omega, by omega, hnb.chg (((Chg.refl (fun _ => False) wi).alloc _).drewN _) id, Lib.hid (hMid.out.skip (fun ⟨_, st', h1, h2, _⟩ => by rw [HST.out] at h1; injection h1 with h1; subst h1; rw [hea] at h2; cases h2)), hb2.chg (((Chg.refl (fun _ => False) wi).alloc _).drewN _) id, blk_alloc hbox2 _, (((Chg.of_below (M := fun _ => False) hbel2).alloc _).drewN _).below (fun _ _ h => h)⟩
            | true =>
              have hisI : (i : Int) < s.size := by omega
              obtain ⟨hv, hhv⟩ : ∃ hv, hv = st.set ch := ⟨_, rfl⟩
              have hhas : Hid (∀ W : World, Calls Tryd.prog 55 #[.agg #[.int .u64 (q 0), .int .u64 (q 1), .int .u64 (q 2), .int .u64 (q 3)], .int .u8 (s[i].toNat : Int)] W fun e w' => e = .returned (.bool hv) ∧ Below W.heap.size W w') := Lib.hid fun W => by
                have h := has_calls q st.set (s[i].toNat : Int) W (by omega) (by have := UInt8.toNat_lt s[i]; omega) HQ.out
                rw [hhv, HCH.out]
                simpa using h
              have HHV := Lib.hid hhv
              clear hhv
              go_wp2_with (refine wpList_load_mid rfl _ (.tmp 45) rfl g (m * 6) rfl _ _ HRG.out Tryd.underlying89 rfl (by kernel_rfl) ?_)
              cases hv with
              | false =>
                go_region_with (go_at_call 55; refine (hhas.out _).mono ?_; rintro e w3 ⟨rfl, hb3⟩)
                all_goals
                  have hsz3 := hb3.size
                  have hbel3 : Below w.heap.size w w3 := ((((Chg.of_below (M := fun _ => False) hbel2).alloc _).drewN _).trans (Chg.of_below hb3)).below (fun _ _ h => h)
                  have hsame : ∀ k, k < wi.heap.size → w3.heap[k]? = wi.heap[k]? := fun k hk => (hb3.block k (by simp; omega)).trans (Below.heap_alloc _ _ _ hk)
                  go_wp2
                  go_roundg (k2 - 1)
                  case measure => omega
                  case rel => exact ⟨m + 1, nb, by go_num, by omega, by omega, (hsame _ (blk_lt hnb)).trans hnb, Lib.hid (hMid.out.skip (fun ⟨_, st', h1, _, h3⟩ => by rw [HST.out] at h1; injection h1 with h1; subst h1; rw [← HHV.out] at h3; cases h3)), (hsame _ (blk_lt hb2)).trans hb2, (hsame _ (blk_lt hbox2)).trans hbox2, hbel3⟩
              | true =>
                obtain ⟨m0, hm0⟩ := hE m st HST.out hea
                obtain ⟨gN, hA, hgN, hcN⟩ := HNX.out 0 m0 (by rw [hm0]; rfl)
                subst hA
                have hlen1 : st.next.length = 1 := by rw [hm0]; rfl
                rw [hlen1] at hcn
                have hm0l := (hwf m st HST.out).2 m0 (by rw [hm0]; simp)
                have HM0 := Lib.hid hm0
                have HCN := Lib.hid hcN
                clear hm0 hcN
                go_region_with (go_at_call 55; refine (hhas.out _).mono ?_; rintro e w3 ⟨rfl, hb3⟩)
                all_goals
                  have hsz3 := hb3.size
                  have hbel3 : Below w.heap.size w w3 := ((((Chg.of_below (M := fun _ => False) hbel2).alloc _).drewN _).trans (Chg.of_below hb3)).below (fun _ _ h => h)
                  have hsame : ∀ k, k < wi.heap.size → w3.heap[k]? = wi.heap[k]? := fun k hk => (hb3.block k (by simp; omega)).trans (Below.heap_alloc _ _ _ hk)
                  have hxb := (hb3.block wi.heap.size (by simp)).trans (blk_new wi (.cells #[.int .u64 (q 0), .int .u64 (q 1), .int .u64 (q 2), .int .u64 (q 3), .bool true, .slice (some ⟨gN, 0, none⟩) 1 cn] 89))
                  have x5 := (blk_cell (o := 5) hxb).trans rfl
                  have xbox := (blk_cell (o := 0) ((hsame _ (blk_lt hbox2)).trans hbox2)).trans rfl
                  have xN := (hbel3.cell (World.block_lt_of_cell? _ _ HCN.out)).trans HCN.out
                  have hnb3 : Bools w3 wo.heap.size nb := (hsame _ (blk_lt hnb)).trans hnb
                  have hb23 : Bools w3 gn bs := (hsame _ (blk_lt hb2)).trans hb2
                  have hbox3 := (hsame _ (blk_lt hbox2)).trans hbox2
                  have HS3 := Lib.hid hsame
                  clear hxb hsame
                  go_wp2
                  go_region_with (go_at_call 54; refine (reach_calls l hwf hll wo.heap.size _ nb.length nb m0 l.length _ (List.countP_le_length) (hMid.out.1.trans hbl.out) hm0l (hnb3.chg (Chg.refl (fun _ => False) w3).drew id) (HV.out.frame fun k hk hS => ⟨hbel3.block k hS, by omega⟩)).mono ?_; rintro e w4 ⟨rfl, nb', hnb4, hR, hc4⟩; have HR := Lib.hid hR; clear hR)
                  all_goals
                    go_wp2
                    go_roundg (k2 - 1)
                    case measure => omega
                    case rel => exact ⟨m + 1, nb', by go_num, by omega, by omega, hnb4, Lib.hid (hMid.out.take HBM.out (fun a h => (hRun.out a).1 h) HST.out hea HHV.out.symm HM0.out HR.out), hc4.blk hb23 (fun h => hgx h.symm), hc4.blk hbox3 (fun h => hgx2 h.symm), ((Chg.of_below (M := (· = wo.heap.size)) hbel3).drew.trans hc4).below (fun k hk h => by omega)⟩
        · have hle : decide (m < l.length) = false := decide_eq_false hml
          have hme : l.length ≤ m := by omega
          clear hml
          go_wp2
          go_roundg (gk0 - 1)
          case measure => omega
          case rel =>
            have hd := Mid.done (by rw [hbl.out]; exact hme) hE hMid.out hRun.out
            refine ⟨i + 1, wo.heap.size, nb, by go_num, by omega, by omega, rfl, hws, hnb, Lib.hid (hMid.out.1.trans hbl.out), Lib.hid (fun a => ?_), hbox2, hgx2, hbel2⟩
            rw [List.take_add_one, HSI.out, ← HCH.out]
            exact hd a
    · have hle : decide (i < s.size) = false := decide_eq_false hlt
      obtain ⟨b0, hb0⟩ : ∃ b0, bs[0]? = some b0 := ⟨_, List.getElem?_eq_getElem (by rw [hbl.out]; exact hl0)⟩
      have c0 := hb.c hb0
      have HB0 := Lib.hid hb0
      have hi2 : i = s.size := by omega
      have HI2 := Lib.hid hi2
      clear hb0 hi2 hlt
      go_wp2_with fail
      go_ret
      refine ⟨⟨b0, rfl, ?_⟩, hbel⟩
      have h := hRun.out 0
      rw [HI2.out, ← bys_len, List.take_length] at h
      rw [← h]
      unfold Ins
      rw [HB0.out]
      simp
end Go.Proofs.YtmlmnckhiianhaaDoor
