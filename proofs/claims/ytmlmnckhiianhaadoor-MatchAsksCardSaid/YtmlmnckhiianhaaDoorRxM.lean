/- reach, walked. -/
import Derived.Test.YtmlmnckhiianhaaDoorRxK
import Derived.Test.YtmlmnckhiianhaaDoorRxQ
namespace Go.Proofs.YtmlmnckhiianhaaDoor
set_option maxRecDepth 100000
open Go.RowKit
set_option linter.unusedVariables false
set_option linter.unusedSimpArgs false

/-- A set of states in block g. -/
def Bools (w : World) (g : Nat) (bs : List Bool) : Prop := w.heap[g]? = some (.cells (bs.map Value.bool).toArray 4 (0, 0))
theorem Bools.c {w : World} {g : Nat} {bs : List Bool} (h : Bools w g bs) {i : Nat} {b : Bool} (hi : bs[i]? = some b) : w.cell? ⟨g, i, none⟩ = some (.bool b) := by
  rw [blk_cell h]
  simp [hi]
theorem Bools.set {w : World} {g : Nat} {bs : List Bool} (h : Bools w g bs) (i : Nat) (b : Bool) : Bools (w.setCell ⟨g, i, none⟩ (.bool b)) g (bs.set i b) := by
  have := blk_set (o := i) h (.bool b)
  unfold Bools
  rw [this]
  congr 2
  apply Array.ext'
  simp [List.map_set]
theorem Bools.chg {w w' : World} {g : Nat} {bs : List Bool} (h : Bools w g bs) {M : Nat → Prop} (hc : Chg M w w') (hn : ¬ M g) : Bools w' g bs := hc.blk h hn

/-- The cells of a state. -/
theorem RegV.open {w : World} {S : Nat → Prop} {v : Value} {l : List St} (h : RegV w S v l) : ∃ g c, v = .slice (some ⟨g, 0, none⟩) l.length c ∧ l.length ≤ c ∧ S g ∧ ∀ (i : Nat) (st : St), l[i]? = some st → ∃ (q : Nat → Int) (nx : Value),
    w.cell? ⟨g, i * 6, none⟩ = some (.int .u64 (q 0)) ∧ w.cell? ⟨g, i * 6 + 1, none⟩ = some (.int .u64 (q 1)) ∧ w.cell? ⟨g, i * 6 + 2, none⟩ = some (.int .u64 (q 2)) ∧ w.cell? ⟨g, i * 6 + 3, none⟩ = some (.int .u64 (q 3)) ∧ w.cell? ⟨g, i * 6 + 4, none⟩ = some (.bool st.eat) ∧ w.cell? ⟨g, i * 6 + 5, none⟩ = some nx ∧ SetV q st.set ∧ Nx w S nx st.next := by
  obtain ⟨g, c, arr, h1, h2, h3, h4, h5⟩ := h
  refine ⟨g, c, h1, h2, h3, fun i st hi => ?_⟩
  obtain ⟨q, nx, a0, a1, a2, a3, a4, a5, a6, a7⟩ := h5 i st hi
  rw [Nat.mul_comm] at a0 a1 a2 a3 a4 a5
  exact ⟨q, nx, (blk_cell h4).trans (by simpa using a0), (blk_cell h4).trans (by simpa using a1), (blk_cell h4).trans (by simpa using a2), (blk_cell h4).trans (by simpa using a3), (blk_cell h4).trans (by simpa using a4), (blk_cell h4).trans (by simpa using a5), a6, a7⟩
theorem Nx.open {w : World} {S : Nat → Prop} {nx : Value} {l : List Nat} (h : Nx w S nx l) : ∃ A c, nx = .slice A l.length c ∧ l.length ≤ c ∧ ∀ (i n : Nat), l[i]? = some n → ∃ g, A = some ⟨g, 0, none⟩ ∧ S g ∧ w.cell? ⟨g, i, none⟩ = some (.int .i64 (n : Int)) := by
  rcases h with ⟨rfl, rfl⟩ | ⟨g, c, arr, rfl, h2, h3, h4, h5⟩
  · exact ⟨none, 0, rfl, Nat.le_refl _, fun i n h => by simp at h⟩
  · exact ⟨_, c, rfl, h3, fun i n hi => ⟨g, rfl, h2, (blk_cell h4).trans (h5 i n hi)⟩⟩

/-- What reach has done. -/
def ReachP (w : World) (gs : Nat) (l : List St) (bs : List Bool) (i : Nat) (e : Ending) (w' : World) : Prop :=
  e = .returned (.tuple #[]) ∧ ∃ bs', Bools w' gs bs' ∧ ReachR l bs i bs' ∧ Chg (· = gs) w w'

set_option maxHeartbeats 2000000 in
theorem reach_calls (l : List St) (hwf : WF l) (hll : l.length ≤ 100000) (gs : Nat) (v : Value) : ∀ (n : Nat) (bs : List Bool) (i c : Nat) (w : World), cf bs ≤ n → bs.length = l.length → i < l.length → Bools w gs bs → RegV w (fun k => k ≠ gs) v l →
    Calls Tryd.prog 54 #[.agg #[v], .slice (some ⟨gs, 0, none⟩) l.length c, .int .i64 (i : Int)] w (ReachP w gs l bs i) := by
  intro n
  induction n with
  | zero =>
    intro bs i c w hn hbl hi hb hv
    have h1 : bs[i]? = some true := by
      cases hbi : bs[i]? with
      | none => rw [List.getElem?_eq_none_iff] at hbi; omega
      | some b =>
        cases b with
        | true => rfl
        | false => have := cf_set hbi; omega
    have c1 := hb.c h1
    have hiI : (i : Int) < l.length := by omega
    have z1 := blk_lt hb
    have HB := Lib.hid hb
    have H1 := Lib.hid h1
    clear hb h1 hv
    go_enter Tryd.func54, Tryd.ntmps54
    go_wp2_with fail
    refine bodyPost_ret (v := .tuple #[]) (by simp [results, Tryd.results54, go_sem]) rfl ?_
    exact ⟨rfl, bs, HB.out.chg ((Chg.refl (fun _ => False) w).alloc _) id, ⟨rfl, fun k h => h, H1.out, fun k h1 h2 => absurd h1 h2⟩, (Chg.refl _ w).alloc _⟩
  | succ n ih =>
    intro bs i c w hn hbl hi hb hv
    cases hbi : bs[i]? with
    | none => rw [List.getElem?_eq_none_iff] at hbi; omega
    | some b =>
      cases b with
      | true =>
        have c1 := hb.c hbi
        have hiI : (i : Int) < l.length := by omega
        have z1 := blk_lt hb
        have HB := Lib.hid hb
        have H1 := Lib.hid hbi
        clear hb hbi hv ih
        go_enter Tryd.func54, Tryd.ntmps54
        go_wp2_with fail
        refine bodyPost_ret (v := .tuple #[]) (by simp [results, Tryd.results54, go_sem]) rfl ?_
        exact ⟨rfl, bs, HB.out.chg ((Chg.refl (fun _ => False) w).alloc _) id, ⟨rfl, fun k h => h, H1.out, fun k h1 h2 => absurd h1 h2⟩, (Chg.refl _ w).alloc _⟩
      | false =>
        obtain ⟨st, hst⟩ : ∃ st, l[i]? = some st := ⟨_, List.getElem?_eq_getElem hi⟩
        obtain ⟨g, cv, hvv, hlc, hgs, hcells⟩ := hv.open
        obtain ⟨q, nx, e0, e1, e2, e3, e4, e5, e6, e7⟩ := hcells i st hst
        subst hvv
        have c1 := hb.c hbi
        have f1 : w.frozen? ⟨gs, i, none⟩ = false := blk_free hb
        have z1 := blk_lt hb
        have zg := World.block_lt_of_cell? _ _ e4
        have hiI : (i : Int) < l.length := by omega
        have hgne : (g = gs) = False := eq_false hgs
        cases hea : st.eat with
        | true =>
          rw [hea] at e4
          have HB := Lib.hid hb
          have H1 := Lib.hid hbi
          have HST := Lib.hid hst
          clear hb hbi hv ih hcells e0 e1 e2 e3 e5 e6 e7 hst
          go_enter Tryd.func54, Tryd.ntmps54
          go_wp2_with fail
          refine bodyPost_ret (v := .tuple #[]) (by simp [results, Tryd.results54, go_sem]) rfl ?_
          have heps : epsOf l i = [] := by unfold epsOf; rw [HST.out]; simp [hea]
          refine ⟨rfl, bs.set i true, (HB.out.set i true).chg ((Chg.refl (fun _ => False) _).alloc _) id, ⟨by simp, fun k h => ?_, by rw [List.getElem?_set_self (by omega)], fun k h1 h2 => ?_⟩, ((Chg.refl (· = gs) w).setCell (p := ⟨gs, i, none⟩) (.inl rfl) _).alloc _⟩
          · by_cases hk : k = i
            · subst hk; rw [List.getElem?_set_self (by omega)]
            · rw [List.getElem?_set_ne (fun e => hk e.symm)]; exact h
          · by_cases hk : k = i
            · subst hk; exact ⟨.nil _, fun m hm => by rw [heps] at hm; simp at hm⟩
            · rw [List.getElem?_set_ne (fun e => hk e.symm)] at h1; exact absurd h1 h2
        | false =>
          rw [hea] at e4
          obtain ⟨A, cn, hnx, hcn, hnxt⟩ := e7.open
          subst hnx
          have hcfs := cf_set hbi
          have HB := Lib.hid hb
          have HV := Lib.hid hv
          have HBI := Lib.hid hbi
          have HST := Lib.hid hst
          have HNX := Lib.hid hnxt
          have HIH := Lib.hid ih
          have HWF := Lib.hid (hwf i st hst).2
          have hcf1 : cf (bs.set i true) ≤ n := by omega
          have hnl := (hwf i st hst).1
          clear hb hbi hv ih hcells e0 e1 e2 e3 e6 e7 hst hnxt hcfs
          go_enter Tryd.func54, Tryd.ntmps54
          go_wp2_with fail
          go_loopg [28] (st.next.length + 1) (fun k u wr => ∃ (m : Nat) (bm : List Bool), u = .int .i64 (m : Int) ∧ m + k = st.next.length + 1 ∧ m ≤ st.next.length ∧ Bools wr gs bm ∧ Chg (· = gs) w wr ∧ wr.heap[w.heap.size]? = some (.cells #[.slice (some ⟨g, 0, none⟩) l.length cv] 59 (0, 0)) ∧
            Hid (bm.length = bs.length ∧ (∀ k : Nat, (bs.set i true)[k]? = some true → bm[k]? = some true) ∧ (∀ k : Nat, bm[k]? = some true → (bs.set i true)[k]? ≠ some true → Run l i [] k ∧ ∀ m, m ∈ epsOf l k → bm[m]? = some true) ∧ ∀ (a b : Nat), a < m → st.next[a]? = some b → bm[b]? = some true))
          case atStart => exact ⟨0, bs.set i true, rfl, by omega, by omega, (HB.out.set i true).chg ((Chg.refl (fun _ => False) _).alloc _) id, ((Chg.refl (· = gs) w).setCell (p := ⟨gs, i, none⟩) (.inl rfl) _).alloc _, blk_new' _ _ _ (size_set _ _ _).symm, Lib.hid ⟨by simp, fun k h => h, fun k h1 h2 => absurd h1 h2, fun a b h => by omega⟩⟩
          case round =>
            obtain ⟨m, bm, rfl, hmk, hm, hbm, hc, hbox, hH⟩ := hrel
            obtain ⟨wo, rfl⟩ : ∃ m : World, m = wr := ⟨_, rfl⟩
            by_cases hlt : m < st.next.length
            · obtain ⟨b, hbm1⟩ : ∃ b, st.next[m]? = some b := ⟨_, List.getElem?_eq_getElem hlt⟩
              obtain ⟨gn, hA, hgn, hcn1⟩ := HNX.out m b hbm1
              subst hA
              have cw := hc.cell hcn1 hgn
              have cb := (blk_cell (o := 0) hbox).trans rfl
              have hbl2 := HWF.out b (List.mem_of_getElem? hbm1)
              obtain ⟨q1, q2, q3, q4⟩ := hH.out
              have hcfm : cf bm ≤ n := Nat.le_trans (cf_mono (bs := bs.set i true) (by rw [q1]; simp) q2) hcf1
              have HBM := Lib.hid hbm1
              have hltI : (m : Int) < st.next.length := by omega
              have hblm : bm.length = l.length := q1.trans hbl
              have HBL := Lib.hid hblm
              have HBL0 := Lib.hid hbl
              have HQ1 := Lib.hid q1
              clear hbm1 hcn1 q1 q2 q3 q4 hblm hbl
              go_wp2_with (go_at_call 54; refine (HIH.out bm b c _ hcfm HBL.out hbl2 hbm (HV.out.frame fun k hk hS => ⟨hc.block k hk hS, hS⟩)).mono ?_; rintro e w2 ⟨rfl, b2, hbm2, hR, hcc⟩; have HR := Lib.hid hR; clear hR)
              go_roundg (gk - 1)
              case measure => omega
              case rel =>
                obtain ⟨p1, p2, p3, p4⟩ := hH.out
                obtain ⟨r1, r2, r3, r4⟩ := HR.out
                refine ⟨m + 1, b2, by go_num, by omega, by omega, hbm2, hc.trans hcc, hcc.blk hbox (by show ¬ w.heap.size = gs; omega), Lib.hid ⟨r1.trans p1, fun k h => r2 k (p2 k h), fun k h1 h2 => ?_, fun a b' ha hb' => ?_⟩⟩
                · have hmem : b ∈ epsOf l i := by unfold epsOf; rw [HST.out]; simp only [hea, Bool.false_eq_true, if_false]; exact List.mem_of_getElem? HBM.out
                  by_cases hk : bm[k]? = some true
                  · obtain ⟨s1, s2⟩ := p3 k hk h2
                    exact ⟨s1, fun m hm => r2 m (s2 m hm)⟩
                  · obtain ⟨s1, s2⟩ := r4 k h1 hk
                    exact ⟨Run.append (Run.step (.nil i) hmem) s1, s2⟩
                · by_cases ham : a < m
                  · exact r2 _ (p4 a b' ham hb')
                  · have : a = m := by omega
                    subst this
                    rw [HBM.out] at hb'
                    injection hb' with hb'
                    subst hb'
                    exact r3
            · have hle : decide (m < st.next.length) = false := decide_eq_false hlt
              have HBL0 := Lib.hid hbl
              clear hbl
              go_wp2_with fail
              go_end0
              obtain ⟨p1, p2, p3, p4⟩ := hH.out
              refine ⟨rfl, bm, hbm, ⟨p1, fun k h => p2 k ?_, p2 i (by rw [List.getElem?_set_self (by have := HBL0.out; omega)]), fun k h1 h2 => ?_⟩, hc⟩
              · by_cases hk : k = i
                · subst hk; rw [List.getElem?_set_self (by have := HBL0.out; omega)]
                · rw [List.getElem?_set_ne (fun e => hk e.symm)]; exact h
              · by_cases hk : k = i
                · subst hk
                  refine ⟨.nil _, fun b hb => ?_⟩
                  unfold epsOf at hb
                  rw [HST.out] at hb
                  simp only [hea, Bool.false_eq_true, if_false] at hb
                  obtain ⟨a, ha, hab⟩ := List.getElem_of_mem hb
                  exact p4 a b (by omega) (by rw [← hab]; exact List.getElem?_eq_getElem ha)
                · exact p3 k h1 (by rw [List.getElem?_set_ne (fun e => hk e.symm)]; exact h2)
end Go.Proofs.YtmlmnckhiianhaaDoor
