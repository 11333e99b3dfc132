/- Parse, walked: a text's automaton, or what is wrong with it. -/
import Derived.Test.YtmlmnckhiianhaaDoorRxJ
namespace Go.Proofs.YtmlmnckhiianhaaDoor
set_option maxRecDepth 100000
open Go.RowKit
set_option linter.unusedVariables false
set_option linter.unusedSimpArgs false

/-- The automaton of a pattern: state 0 is the end, the last one the beginning. -/
def Rx.table (x : Rx) : List St := (Rx.lay x 0 [St.none]).1 ++ [⟨fun _ => false, false, [(Rx.lay x 0 [St.none]).2]⟩]
/-- An automaton that is done with, in blocks of S. -/
def RegV (w : World) (S : Nat → Prop) (v : Value) (l : List St) : Prop :=
  ∃ (g c : Nat) (arr : Array Value), v = .slice (some ⟨g, 0, none⟩) l.length c ∧ l.length ≤ c ∧ S g ∧ w.heap[g]? = some (.cells arr 89 (0, 0)) ∧ ∀ (i : Nat) (st : St), l[i]? = some st → StX w S st arr.toList i
theorem RegV.frame {w w' : World} {S S' : Nat → Prop} {v : Value} {l : List St} (h : RegV w S v l) (hh : ∀ k, k < w.heap.size → S k → w'.heap[k]? = w.heap[k]? ∧ S' k) : RegV w' S' v l := by
  obtain ⟨g, c, arr, h1, h2, h3, h4, h5⟩ := h
  exact ⟨g, c, arr, h1, h2, (hh g (blk_lt h4) h3).2, (hh g (blk_lt h4) h3).1.trans h4, fun i st hi => (h5 i st hi).frame hh (fun j _ _ => rfl)⟩
theorem RegV.below {w w' : World} {v : Value} {l : List St} (h : RegV w (fun _ => True) v l) (hb : Below w.heap.size w w') : RegV w' (fun _ => True) v l :=
  h.frame fun k hk _ => ⟨hb.block k hk, trivial⟩
theorem Tab.regV {w : World} {B r : Nat} {v : Value} {l : List St} {Av : Nat → Prop} (h : Tab w B r v l Av) (hl : 0 < l.length) : RegV w (fun k => B ≤ k) v l := by
  obtain ⟨xs, h1, h2⟩ := h.own
  rcases h1.2 with ⟨_, h4⟩ | ⟨g, c, arr, hv, hg, harr, hc, _, hsz, ht⟩
  · omega
  · refine ⟨g, c, arr, hv, hc, hg, harr, fun i st hi => (h2 i st hi).frame (fun k hk hS => ⟨rfl, hS.1⟩) (fun j hj _ => ?_)⟩
    have hil := (List.getElem?_eq_some_iff.1 hi).1
    have h := congrArg (fun l => l[j]?) ht
    simp only [List.getElem?_take] at h
    rw [if_pos (by omega)] at h
    exact h

theorem At.up {w : World} {S : Nat → Prop} {b : Nat} {x : Rx} (h : At w S b x) : ∀ o : Obj, At (w.alloc o) (fun k => k < w.heap.size) b x := fun o =>
  h.frame fun k hk _ => ⟨Below.heap_alloc w o k hk, hk⟩
theorem Tab.empty (w : World) : Tab (w.alloc (.cells #[.slice none 0 0] 59)) w.heap.size w.heap.size (.slice none 0 0) [] (fun _ => True) :=
  ⟨blk_new w _, Nat.le_refl _, by simp [Value.ownBlock], [], World.ownsRow_nil _ _ _ _, fun i st h => by simp at h⟩
theorem World.size_alloc (w : World) (o : Obj) : (w.alloc o).heap.size = w.heap.size + 1 := by simp

def ParseRes (w : World) (r : Except Nat Rx) (e : Ending) (w' : World) : Prop :=
  Below w.heap.size w w' ∧ match r with
  | .ok x => ∃ v, e = .returned (.tuple #[.agg #[v], .int .i64 0]) ∧ RegV w' (fun k => w.heap.size ≤ k) v x.table
  | .error er => e = .returned (.tuple #[.agg #[.slice none 0 0], .int .i64 er]) ∧ er ≠ 0

theorem parse_pat {t : List Nat} (h : t.length ≤ 64) : Rx.parse t = match Rx.pPat t 8 0 with | .error e => .error e | .ok (x, j) => if j < t.length then .error 27 else .ok x := by
  unfold Rx.parse
  rw [if_neg (by omega)]
  cases Rx.pPat t 8 0 with
  | error e => rfl
  | ok p => rfl

set_option maxHeartbeats 4000000 in
theorem Parse_long (s : ByteArray) (w : World) (hs : 64 < s.size) :
    Calls Tryd.prog 23 #[.string s] w (ParseRes w (Rx.parse (bys s))) := by
  have hr : Rx.parse (bys s) = .error 9 := by unfold Rx.parse; rw [if_pos (by rw [bys_len]; exact hs)]
  rw [hr]
  have hs' : (64 : Int) < s.size := by omega
  clear hr
  go_enter Tryd.func23, Tryd.ntmps23
  go_wp2
  refine bodyPost_ret (v := .tuple #[.agg #[.slice none 0 0], .int .i64 9]) (by simp [results, Tryd.results23, go_sem]) rfl ⟨?_, rfl, by decide⟩
  exact (Below.refl _ _).alloc (Nat.le_refl _) _

set_option maxHeartbeats 4000000 in
theorem Parse_calls (s : ByteArray) (w : World) : Calls Tryd.prog 23 #[.string s] w (ParseRes w (Rx.parse (bys s))) := by
  by_cases hs : 64 < s.size
  · exact Parse_long s w hs
  · have hs64 : s.size ≤ 64 := by omega
    have hs' : decide ((64 : Int) < s.size) = false := decide_eq_false (by omega)
    rw [parse_pat (by rw [bys_len]; exact hs64)]
    have HP : Rec (w.heap.size + 1) s 0 (Rx.pPat (bys s) 8) := by simpa using pat_calls (w.heap.size + 1) s hs64 8 (Nat.le_refl _)
    have hps : PS ((w.alloc (.cells #[.slice none 0 0] 59)).alloc (.cells #[.string s, .int .i64 0, .int .i64 0, .int .i64 0] 80)) (w.heap.size + 1) s ((0 : Nat) : Int) 0 0 := blk_new' _ _ _ (by simp)
    cases hf : Rx.pPat (bys s) 8 0 with
    | error er =>
      have HFF := Lib.hid hf
      clear hf hs
      go_enter Tryd.func23, Tryd.ntmps23
      go_wp2_with (go_at_call 36; refine (HP.calls 0 _ (by omega) hps).mono ?_; rintro e w2 hr2; rw [HFF.out] at hr2; obtain ⟨hc_w2, ⟨q2, rfl⟩, ⟨d2, hp_w2⟩, hne⟩ := hr2; have a3 := hp_w2.c3; have a1 := hp_w2.c1; have hz : ((er : Int) == 0) = false := eqb_no hne)
      have hr0 : w2.heap[w.heap.size]? = some (.cells #[.slice none 0 0] 59 (0, 0)) := hc_w2.blk (blk_alloc (blk_new w _) _) (by simp)
      have r0 := (blk_cell (o := 0) hr0).trans rfl
      have rf := blk_free (o := 0) hr0
      clear hr0
      go_region
      all_goals
        go_wp2
        refine bodyPost_ret (v := .tuple #[.agg #[.slice none 0 0], .int .i64 er]) (by simp [results, Tryd.results23, go_sem, r0]) rfl ⟨?_, rfl, hne⟩
        have hc := ((((Chg.refl (fun k => w.heap.size ≤ k) w).alloc _).alloc _).trans (hc_w2.mono (fun k _ h => by omega))).setCell (p := ⟨w.heap.size, 0, none⟩) (u := .slice none 0 0) (.inl (Nat.le_refl _))
        exact (hc.drew).below fun k hk h => by omega
    | ok xj =>
      obtain ⟨x, j⟩ := xj
      have hadv := Rx.pPat_good (bys s) 8 _ _ _ hf
      have HFF := Lib.hid hf
      clear hf hs
      by_cases hj : j < s.size
      · have hj' : j < (bys s).length := by rw [bys_len]; exact hj
        simp only [if_pos hj']
        have hjI : (j : Int) < s.size := by omega
        clear hj'
        go_enter Tryd.func23, Tryd.ntmps23
        go_wp2_with (first | (go_at_call 36; refine (HP.calls 0 _ (by omega) hps).mono ?_; rintro e w2 hr2; rw [HFF.out] at hr2; obtain ⟨hc_w2, b2, rfl, hat, hp_w2, hj2⟩ := hr2; have a3 := hp_w2.c3; have a1 := hp_w2.c1; clear hat) | (go_at_call 37; ((with_reducible refine (fail_calls (w.heap.size + 1) s _ 0 0 27 _ hs64 hp_w2).mono ?_); rintro e w6 ⟨⟨q6, rfl⟩, hp_w6, hc_w6⟩); simp only [if_true] at hp_w6; have d3 := hp_w6.c3))
        have hr0 : w6.heap[w.heap.size]? = some (.cells #[.slice none 0 0] 59 (0, 0)) := hc_w6.blk (hc_w2.blk (blk_alloc (blk_new w _) _) (by simp)) (by simp)
        have r0 := (blk_cell (o := 0) hr0).trans rfl
        have rf := blk_free (o := 0) hr0
        clear hr0
        go_region
        all_goals
          go_wp2
          refine bodyPost_ret (v := .tuple #[.agg #[.slice none 0 0], .int .i64 27]) (by simp [results, Tryd.results23, go_sem, r0]) rfl ⟨?_, rfl, by decide⟩
          have hc := (((((Chg.refl (fun k => w.heap.size ≤ k) w).alloc _).alloc _).trans (hc_w2.mono (fun k _ h => by omega))).trans (hc_w6.mono (fun k _ h => by omega))).setCell (p := ⟨w.heap.size, 0, none⟩) (u := .slice none 0 0) (.inl (Nat.le_refl _))
          exact (hc.drew).below fun k hk h => by omega
      · have hj' : ¬ j < (bys s).length := by rw [bys_len]; exact hj
        simp only [if_neg hj']
        have hjI : decide (j < s.size) = false := decide_eq_false hj
        obtain ⟨i0, hinf, hz0, hz1, hz2⟩ := info_parts Tryd.infoState
        clear hj' hj
        go_enter Tryd.func23, Tryd.ntmps23
        go_wp2_with (first | (go_at_call 36; refine (HP.calls 0 _ (by omega) hps).mono ?_; rintro e w2 hr2; rw [HFF.out] at hr2; obtain ⟨hc_w2, b2, rfl, hat, hp_w2, hj2⟩ := hr2; have a3 := hp_w2.c3; have a1 := hp_w2.c1; have HLY := Lib.hid (lay_calls _ x (Nat.le_refl _) (by omega)); have hsz1 := Rx.wt_sz x; have HAT := Lib.hid (At.up hat); have hr2 := Lib.hid (show w2.heap[w.heap.size]? = some (.cells #[.slice none 0 0] 59 (0, 0)) from hc_w2.blk (blk_alloc (blk_new w _) _) (by simp)); have hs2 := hc_w2.size; simp only [World.size_alloc] at hs2; clear hat) | (go_at_call 38; refine (add_calls w2.heap.size w2.heap.size (.slice none 0 0) [] (fun _ => True) (fun _ => 0) St.none _ _ (Tab.empty w2) SetV.zero (.inl ⟨rfl, rfl⟩) (by simp)).mono ?_; rintro e w3 ⟨rfl, v3, hT3, hc3, hn3⟩; have hs3 := hc3.size; simp only [World.size_alloc] at hs3) | (go_at_call 39; refine (HLY.out w2.heap.size w2.heap.size b2 0 v3 _ (fun _ => True) _ ((HAT.out _).may (Tab.empty w2) hc3) hT3 (fun _ _ => trivial) (by simp; omega) (by omega)).mono ?_; rintro e w4 ⟨rfl, v4, hT4, hc4, hn4⟩; obtain ⟨xs4, ho4, hs4⟩ := hT4.own; have c4 := hT4.c0; have z4 := hT4.lt; have hs5 := hc4.size; have HO := Lib.hid ho4; have HS := Lib.hid hs4; have HT4 := Lib.hid hT4; clear hT4 ho4 hs4; have hlen4 := (Rx.lay_len x 0 ([] ++ [St.none])).1; have hlen5 : (Rx.lay x 0 ([] ++ [St.none])).1.length ≤ 100000 := (by rw [hlen4]; simp; omega); clear hlen4) | (at_builtin; refine wpList_append_lies _ rfl (.tmp 48) (.tmp 52) 57 rfl w2.heap.size 89 i0 (.agg #[.int .u64 0, .int .u64 0, .int .u64 0, .int .u64 0, .bool false, .slice none 0 0]) 6 64 Tryd.underlying57 hinf hz0 hz1 hz2 rfl (by decide) v4 _ xs4 rfl ((HO.out.alloc _).alloc _) ⟨_, 0, none⟩ 1 1 [.int .u64 0, .int .u64 0, .int .u64 0, .int .u64 0, .bool false, .slice (some ⟨w4.heap.size, 0, none⟩) 1 1] rfl rfl (World.news_of_block (blk_new' _ _ _ (by simp))) (fun u hu => by simp at hu; rcases hu with rfl | rfl | rfl <;> rfl) (by decide) (by unfold maxLen; omega) (by omega) (by simp; omega) _ rfl ?_; intro g1 cap w5 hown5 hgr5 hor5 hlt5; have q5 := (blk_cell (o := 0) (blk_grown (blk_alloc (blk_alloc HT4.out.rb _) _) hgr5 HT4.out.rne)).trans rfl; have qf5 := blk_free (o := 0) (blk_grown (blk_alloc (blk_alloc HT4.out.rb _) _) hgr5 HT4.out.rne); have hr5 := blk_grown (blk_alloc (blk_alloc (hc4.blk (hc3.blk (blk_alloc hr2.out _) (fun hM => by have := (Tab.empty w2).may hM; omega)) (fun hM => by have := hT3.may hM; omega)) _) _) hgr5 (fun e => by have := (HO.out.lt _ e.symm).1; omega); have r5 := (blk_cell (o := 0) hr5).trans rfl; have rf5 := blk_free (o := 0) hr5; have hne5 : w.heap.size ≠ w2.heap.size := by omega))
        refine bodyPost_ret (v := .tuple #[.agg #[.slice (some ⟨g1, 0, none⟩) ((Rx.lay x 0 ([] ++ [St.none])).1.length + 1) cap], .int .i64 0]) (by simp [results, Tryd.results23, go_sem, r5]) rfl ⟨?_, _, rfl, ?_⟩
        · have hc := ((Chg.refl (fun k => w.heap.size ≤ k) w).alloc (.cells #[.slice none 0 0] 59)).alloc (.cells #[.string s, .int .i64 0, .int .i64 0, .int .i64 0] 80)
          have hd := (hc.trans (hc_w2.mono (fun k _ h => by omega))).alloc (.cells #[.slice none 0 0] 59)
          have he := hd.trans (hc3.mono (fun k _ h => by have := (Tab.empty w2).may h; omega))
          have hf := he.trans (hc4.mono (fun k _ h => by have := hT3.may h; omega))
          have hg := ((hf.alloc _).alloc _).grown hgr5 (fun k hk => .inl (by have := (HO.out.lt _ hk).1; omega))
          exact ((hg.setCell (p := ⟨w2.heap.size, 0, none⟩) (.inl (by show w.heap.size ≤ w2.heap.size; omega)) _).setCell (p := ⟨w.heap.size, 0, none⟩) (.inl (Nat.le_refl _)) _).below fun k hk h => by omega
        · have hP := Tab.push (W := (w4.alloc (.cells #[.int .i64 ((Rx.lay x 0 ([] ++ [St.none])).2 : Int)] 3)).alloc (.cells #[.int .u64 0, .int .u64 0, .int .u64 0, .int .u64 0, .bool false, .slice (some ⟨w4.heap.size, 0, none⟩) 1 1] 89)) (q := fun _ => 0) (st := ⟨fun _ => false, false, [(Rx.lay x 0 ([] ++ [St.none])).2]⟩) (HT4.out.alloc _) SetV.zero (Nx.one w4 _ ⟨by omega, by omega, fun e => by have := (HO.out.lt _ e.symm).2; omega, trivial⟩) (HO.out.alloc _) (fun i st hi => (HS.out i st hi).frame (fun k hk hS => ⟨Below.heap_alloc _ _ _ hk, hS⟩) (fun _ _ _ => rfl)) ((Below.refl _ _).alloc (Nat.le_refl _) _) hown5 hgr5 hor5
          have hV := hP.regV (by simp)
          exact hV.frame (fun k hk hS => ⟨Below.heap_setCell _ _ _ _ (by show k ≠ w.heap.size; omega), by show w.heap.size ≤ k; have hS' : w2.heap.size ≤ k := hS; omega⟩)
end Go.Proofs.YtmlmnckhiianhaaDoor
