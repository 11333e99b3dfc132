/- A pattern: rows with bars between, walked. -/
import Derived.Test.YtmlmnckhiianhaaDoorRxF
namespace Go.Proofs.YtmlmnckhiianhaaDoor
set_option maxRecDepth 100000
open Go.RowKit
set_option linter.unusedVariables false
set_option linter.unusedSimpArgs false

theorem PS.castd {w : World} {g : Nat} {s : ByteArray} {a d d' b : Int} (h : PS w g s a d b) (e : d = d') : PS w g s a d' b := e ▸ h
theorem row_ok (g : Nat) (s : ByteArray) (i : Nat) (deep : Int) (f : Nat → Except Nat (Rx × Nat)) (w : World) (hs : s.size ≤ 64) (hi : i ≤ s.size) (hp : PS w g s i deep 0) (HF : Rec g s deep f) (hgood : Rx.Good f) {x : Rx} {j : Nat} (h : Rx.pRow f (bys s) i = .ok (x, j)) :
    Calls Tryd.prog 52 #[.pointer (some ⟨g, 0, none⟩)] w fun e w' => ∃ b, e = .returned (.pointer (some ⟨b, 0, none⟩)) ∧ At w' (fun k => w.heap.size ≤ k) b x ∧ PS w' g s (j : Nat) deep 0 ∧ j ≤ s.size ∧ Chg (· = g) w w' :=
  (row_calls g s i deep f w hs hi hp HF hgood).mono fun e w' hr => by rw [h] at hr; obtain ⟨hc, b, a1, a2, a3, a4⟩ := hr; exact ⟨b, a1, a2, a3, a4, hc⟩
theorem row_err (g : Nat) (s : ByteArray) (i : Nat) (deep : Int) (f : Nat → Except Nat (Rx × Nat)) (w : World) (hs : s.size ≤ 64) (hi : i ≤ s.size) (hp : PS w g s i deep 0) (HF : Rec g s deep f) (hgood : Rx.Good f) {er : Nat} (h : Rx.pRow f (bys s) i = .error er) :
    Calls Tryd.prog 52 #[.pointer (some ⟨g, 0, none⟩)] w fun e w' => ∃ q d, e = .returned (.pointer q) ∧ PS w' g s s.size d er ∧ er ≠ 0 ∧ Chg (· = g) w w' :=
  (row_calls g s i deep f w hs hi hp HF hgood).mono fun e w' hr => by rw [h] at hr; obtain ⟨hc, ⟨q, a1⟩, ⟨d, a2⟩, a3⟩ := hr; exact ⟨q, d, a1, a2, a3, hc⟩

/-- A pattern, level by level. -/
def patOf (f : Nat → Except Nat (Rx × Nat)) (t : List Nat) (i : Nat) : Except Nat (Rx × Nat) :=
  match Rx.pRow f t i with
  | .error e => .error e
  | .ok (x, j) => mkOf .either (Rx.pBars f t (t.length + 1) j [x])
theorem patOf_eq (t : List Nat) (n i : Nat) : Rx.pPat t (n + 1) i = patOf (Rx.pPat t n) t i := by
  simp only [Rx.pPat, patOf]
  cases Rx.pRow (Rx.pPat t n) t i with
  | error e => rfl
  | ok p =>
    obtain ⟨x, j⟩ := p
    simp only
    cases Rx.pBars (Rx.pPat t n) t (t.length + 1) j [x] <;> rfl

set_option maxHeartbeats 4000000 in
theorem either_deep (g : Nat) (s : ByteArray) (i : Nat) (w : World) (hs : s.size ≤ 64) (hi : i ≤ s.size) (hp : PS w g s i 8 0) :
    Calls Tryd.prog 36 #[.pointer (some ⟨g, 0, none⟩)] w (PRes g s 8 w (.error 9)) := by
  have c2 := hp.c2
  have f2 := hp.f 2
  go_enter Tryd.func36, Tryd.ntmps36
  go_wp2_with (go_at_call 37; ((with_reducible refine (fail_calls g s _ _ 0 9 _ hs (hp.set2 _)).mono ?_); rintro e w6 ⟨⟨q6, rfl⟩, hp_w6, hc_w6⟩))
  go_ret
  exact ⟨((Chg.refl (· = g) w).setCell (p := ⟨g, 2, none⟩) (.inl rfl) _).trans hc_w6, ⟨_, rfl⟩, ⟨_, by simpa using hp_w6⟩, by decide⟩

set_option maxHeartbeats 4000000 in
theorem either_calls (g : Nat) (s : ByteArray) (i : Nat) (deep : Int) (f : Nat → Except Nat (Rx × Nat)) (w : World) (hd0 : 0 ≤ deep) (hd : deep ≤ 7) (hs : s.size ≤ 64) (hi : i ≤ s.size) (hp : PS w g s i deep 0) (HF : Rec g s (deep + 1) f) (hgood : Rx.Good f) :
    Calls Tryd.prog 36 #[.pointer (some ⟨g, 0, none⟩)] w (PRes g s deep w (patOf f (bys s) i)) := by
  have hg := hp.lt
  obtain ⟨i0, hinf, hz0, hz1, hz2⟩ := info_parts Tryd.infoPtr
  have c2 := hp.c2
  have f2 := hp.f 2
  cases hf0 : Rx.pRow f (bys s) i with
  | error er =>
    have hR : patOf f (bys s) i = .error er := by simp only [patOf, hf0]
    rw [hR]
    clear hR
    have HFF := Lib.hid hf0
    clear hf0
    go_enter Tryd.func36, Tryd.ntmps36
    go_wp2_with (go_at_call 52; ((with_reducible refine (row_err g s i (deep + 1) f _ hs hi (hp.set2 _) HF hgood HFF.out).mono ?_); rintro e w2 ⟨q2, d2, rfl, hp_w2, hne, hc_w2⟩); have b2 := hp_w2.c2; have e2 := hp_w2.f 2; have z2 := hp_w2.lt; have pe := pk_end s 124)
    refine wp_loop_rounds 1 ?_
    rw [rounds_succ]
    go_wp2_with (go_at_call 53; ((with_reducible refine (peek124 g s s.size d2 er _ hs ((hp_w2.alloc _).alloc _)).mono ?_); rintro e w1 ⟨rfl, n1, rfl⟩))
    go_ret
    exact ⟨(((((((Chg.refl (· = g) w).setCell (p := ⟨g, 2, none⟩) (.inl rfl) _).trans hc_w2).alloc _).alloc _).drewN _).setCell (p := ⟨g, 2, none⟩) (.inl rfl) _), ⟨_, rfl⟩, ⟨_, (((hp_w2.alloc _).alloc _).drewN _).set2 _⟩, hne⟩
  | ok xj =>
    obtain ⟨x0, j0⟩ := xj
    have hadv0 := (Rx.pRow_adv hgood hf0).1
    obtain ⟨R, hR0⟩ : ∃ R, Rx.pBars f (bys s) ((bys s).length + 1) j0 [x0] = R := ⟨_, rfl⟩
    have hR : patOf f (bys s) i = mkOf .either R := by simp only [patOf, hf0, hR0]
    rw [hR]
    clear hR
    rw [bys_len] at hR0
    have HFF := Lib.hid hf0
    have HR := Lib.hid hR0
    clear hf0 hR0
    go_enter Tryd.func36, Tryd.ntmps36
    go_wp2_with (go_at_call 52; ((with_reducible refine (row_ok g s i (deep + 1) f _ hs hi (hp.set2 _) HF hgood HFF.out).mono ?_); rintro e wf ⟨bf, rfl, hatf, hp_wf, hjf, hc_wf⟩))
    have HAT := Lib.hid hatf
    have hcs := hc_wf.size
    simp only [size_set] at hcs
    have hGG : Grow w ((wf.alloc (.cells #[.pointer (some ⟨bf, 0, none⟩)] 81)).alloc (.cells #[.int .i64 2, .int .u64 0, .int .u64 0, .int .u64 0, .int .u64 0, .slice (some ⟨wf.heap.size, 0, none⟩) 1 1] 108)) g (wf.heap.size + 1) 2 (.slice (some ⟨wf.heap.size, 0, none⟩) 1 1) [bf] [x0] := by
      refine ⟨show NB _ _ _ _ _ from blk_new' _ _ _ (by simp), ?_, rfl, hg, by omega, by simp [Value.ownBlock], ?_⟩
      · exact (World.ownsRow_lit (base := w.heap.size) wf #[.pointer (some ⟨bf, 0, none⟩)] 1 hcs (by decide) rfl).alloc _
      · intro i b x hb hx
        match i, hb, hx with
        | 0, hb, hx =>
          simp at hb hx
          subst hb; subst hx
          exact hatf.frame fun m hm hS => ⟨by rw [Below.heap_alloc _ _ _ (by simp; omega), Below.heap_alloc _ _ _ hm], by simp [size_set] at hS; omega, by omega, by simp [Value.ownBlock]; omega⟩
    have HG := Lib.hid hGG
    clear hatf hGG
    go_loopg [] (s.size + 1) (fun k wr => Chg (· = g) w wr ∧
      ((∃ (j : Nat) (v : Value) (bs : List Nat) (l : List Rx), Hid (Grow w wr g (wf.heap.size + 1) 2 v bs l) ∧ PS wr g s (j : Nat) (deep + 1) 0 ∧ j ≤ s.size ∧ l.length ≤ j + 1 ∧ s.size < j + k ∧ Hid (Rx.pBars f (bys s) k j l = R)) ∨
       ∃ (er : Nat) (d : Int), PS wr g s s.size d er ∧ er ≠ 0 ∧ 0 < k ∧ Hid (R = .error er)))
    case atStart => exact ⟨((((Chg.refl (· = g) w).setCell (p := ⟨g, 2, none⟩) (.inl rfl) _).trans hc_wf).alloc _).alloc _, .inl ⟨j0, _, _, _, HG, (hp_wf.alloc _).alloc _, hjf, by simp, by omega, HR⟩⟩
    case round =>
      obtain ⟨hc, hm⟩ := hrel
      obtain ⟨wo, rfl⟩ : ∃ m : World, m = wr := ⟨_, rfl⟩
      clear hp HR HG HAT HFF c2 f2 hp_wf hc_wf hjf
      rcases hm with ⟨j, v, bs, l, hG, hp2, hj, hlj, hfu, hL⟩ | ⟨er, d, hp2, hne, hgk, hL⟩
      · obtain ⟨k0, rfl⟩ : ∃ m : Nat, m + 1 = gk := ⟨gk - 1, by omega⟩
        have a1 := hp2.c1
        have b1 := hp2.f 1
        have a2 := hp2.c2
        have b2' := hp2.f 2
        by_cases hcb : (bys s)[j]? = some 124
        · have hk1 : pk s j 124 = true := by simp [pk, hcb]
          have hlt := pk_lt hk1
          have hw5 := hG.out.nb.w5
          have hf5 := hG.out.nb.f 5
          have hnlt := hG.out.nb.lt
          have hgn : g ≠ wf.heap.size + 1 := by have := hG.out.nle; omega
          have HC := Lib.hid hcb
          clear hcb
          cases hf : Rx.pRow f (bys s) (j + 1) with
          | error er =>
            have HFF := Lib.hid hf
            clear hf
            go_wp2_with (go_at_call 53; ((with_reducible refine (peek124 g s j (deep + 1) 0 _ hs hp2).mono ?_); rintro e w1 ⟨rfl, n1, rfl⟩))
            go_region_law (first | (go_simp; go_at_call 52; ((with_reducible refine (row_err g s (j + 1) (deep + 1) f _ hs (by omega) ((((hp2.drewN _).set1 _).drew).cast (by omega)) HF hgood HFF.out).mono ?_); rintro e w2 ⟨q2, d2, rfl, hp_w2, hne, hc_w2⟩); have hcw : Chg (· = g) wo w2 := (((((Chg.refl (· = g) wo).drewN _).setCell (p := ⟨g, 1, none⟩) (.inl rfl) _).drew).trans hc_w2); have q2n := hG.out.nb.chg hcw (by have := hG.out.nle; have := hG.out.glt; first | omega | (simp; omega)); have q2w := q2n.w5; have q2z := q2n.lt) | (refine step_append_lies _ rfl (.tmp 36) (.tmp 39) 106 rfl w.heap.size 81 i0 (.pointer none) 1 8 Tryd.underlying106 hinf hz0 hz1 hz2 rfl (by decide) v bs.length (bs.map fun b => .pointer (some ⟨b, 0, none⟩)) rfl (by exact (hG.out.own.kept hcw.grownBy (own_ne hG.out.own hg)).alloc _) ⟨_, 0, none⟩ 1 1 [.pointer q2] rfl rfl (World.news_of_block (blk_new _ _)) (fun u hu => by simp at hu; subst hu; rfl) (by decide) (by have := hG.out.len; unfold maxLen; omega) (by have := hG.out.len; omega) (by have := hcw.size; have := blk_lt hG.out.nb; simp at *; omega) _ rfl (fun g1 cap w3 hown3 hgr3 hor3 hlt3 => ?_); have hnb3 : NB w3 (wf.heap.size + 1) 2 (fun _ => 0) v := blk_grown (blk_alloc (hG.out.nb.chg hcw (by first | omega | (simp; omega))) _) hgr3 hG.out.nne; have q5 := hnb3.w5; have qf5 := hnb3.f 5))
            all_goals
              go_wp2
              go_roundg k0
              case measure => omega
              case rel =>
                refine ⟨?_, .inr ⟨er, d2, ?_, hne, by omega, ?_⟩⟩
                · exact (((hc.trans hcw).alloc _).grown hgr3 (fun k hk => .inr (hG.out.own.lt k hk).1)).setCell (.inr hG.out.nle) _
                · exact PS.far (show PS w3 g s s.size d2 er from blk_grown (blk_alloc hp_w2 _) hgr3 (own_some hG.out.own hg)) hgn _
                · have h := hL.out; simp only [Rx.pBars] at h; rw [if_pos HC.out] at h; simp only [HFF.out] at h; exact h.symm
          | ok xj =>
            obtain ⟨x, j1⟩ := xj
            have hadv := (Rx.pRow_adv hgood hf).1
            have HFF := Lib.hid hf
            clear hf
            go_wp2_with (go_at_call 53; ((with_reducible refine (peek124 g s j (deep + 1) 0 _ hs hp2).mono ?_); rintro e w1 ⟨rfl, n1, rfl⟩))
            go_region_law (first | (go_simp; go_at_call 52; ((with_reducible refine (row_ok g s (j + 1) (deep + 1) f _ hs (by omega) ((((hp2.drewN _).set1 _).drew).cast (by omega)) HF hgood HFF.out).mono ?_); rintro e w2 ⟨b2, rfl, hat, hp_w2, hj2, hc_w2⟩); have hcw : Chg (· = g) wo w2 := (((((Chg.refl (· = g) wo).drewN _).setCell (p := ⟨g, 1, none⟩) (.inl rfl) _).drew).trans hc_w2); have q2n := hG.out.nb.chg hcw (by have := hG.out.nle; have := hG.out.glt; first | omega | (simp; omega)); have q2w := q2n.w5; have q2z := q2n.lt) | (refine step_append_lies _ rfl (.tmp 36) (.tmp 39) 106 rfl w.heap.size 81 i0 (.pointer none) 1 8 Tryd.underlying106 hinf hz0 hz1 hz2 rfl (by decide) v bs.length (bs.map fun b => .pointer (some ⟨b, 0, none⟩)) rfl (by exact (hG.out.own.kept hcw.grownBy (own_ne hG.out.own hg)).alloc _) ⟨_, 0, none⟩ 1 1 [.pointer (some ⟨b2, 0, none⟩)] rfl rfl (World.news_of_block (blk_new _ _)) (fun u hu => by simp at hu; subst hu; rfl) (by decide) (by have := hG.out.len; unfold maxLen; omega) (by have := hG.out.len; omega) (by have := hcw.size; have := blk_lt hG.out.nb; simp at *; omega) _ rfl (fun g1 cap w3 hown3 hgr3 hor3 hlt3 => ?_); have hnb3 : NB w3 (wf.heap.size + 1) 2 (fun _ => 0) v := blk_grown (blk_alloc (hG.out.nb.chg hcw (by first | omega | (simp; omega))) _) hgr3 hG.out.nne; have q5 := hnb3.w5; have qf5 := hnb3.f 5))
            all_goals
              go_wp2
              go_roundg k0
              case measure => omega
              case rel =>
                have hsz := hc.size
                have hP := Grow.push hG.out hcw (hat.frame fun m hm hS => ⟨rfl, by simpa [size_set] using hS⟩) (by simpa using hown3) hgr3 hor3 hsz
                refine ⟨?_, .inl ⟨j1, _, bs ++ [b2], l ++ [x], Lib.hid hP, ?_, hj2, by simp; omega, by omega, ?_⟩⟩
                · exact (((hc.trans hcw).alloc _).grown hgr3 (fun k hk => .inr (hG.out.own.lt k hk).1)).setCell (.inr hG.out.nle) _
                · exact PS.far (show PS w3 g s j1 (deep + 1) 0 from blk_grown (blk_alloc hp_w2 _) hgr3 (own_some hG.out.own hg)) hgn _
                · have h := hL.out; simp only [Rx.pBars] at h; rw [if_pos HC.out] at h; simp only [HFF.out] at h; exact h
        · have hk1 : pk s j 124 = false := by simp [pk, hcb]
          have HC := Lib.hid hcb
          clear hcb
          go_wp2_with (go_at_call 53; ((with_reducible refine (peek124 g s j (deep + 1) 0 _ hs hp2).mono ?_); rintro e w1 ⟨rfl, n1, rfl⟩))
          go_ret
          have hR2 : mkOf .either R = .ok (.either l, j) := by rw [← hL.out]; simp only [Rx.pBars]; rw [if_neg HC.out]; rfl
          rw [hR2]
          exact ⟨(hc.drewN _).setCell (p := ⟨g, 2, none⟩) (.inl rfl) _, _, rfl, (Grow.at .either 2 hG.out rfl rfl (fun P e => by cases e)).frame (fun m hm hS => ⟨Below.heap_setCell _ _ _ _ (by show m ≠ g; omega), hS⟩), PS.castd ((hp2.drewN _).set2 _) (by omega), hj⟩
      · have a2 := hp2.c2
        have b2' := hp2.f 2
        have pe := pk_end s 124
        go_wp2_with (go_at_call 53; ((with_reducible refine (peek124 g s s.size d er _ hs hp2).mono ?_); rintro e w1 ⟨rfl, n1, rfl⟩))
        go_ret
        rw [hL.out]
        exact ⟨(hc.drewN _).setCell (p := ⟨g, 2, none⟩) (.inl rfl) _, ⟨_, rfl⟩, ⟨_, (hp2.drewN _).set2 _⟩, hne⟩

/-- A pattern, n levels deep at most. -/
theorem pat_calls (g : Nat) (s : ByteArray) (hs : s.size ≤ 64) : ∀ n : Nat, n ≤ 8 → Rec g s (8 - n) (Rx.pPat (bys s) n)
  | 0, _ => fun i w hi hp => either_deep g s i w hs hi hp
  | n + 1, hn => fun i w hi hp => by
    rw [patOf_eq]
    have ih := pat_calls g s hs n (by omega)
    have e : (8 : Int) - (n + 1 : Nat) + 1 = 8 - n := by omega
    exact either_calls g s i _ _ w (by omega) (by omega) hs hi hp (by rw [e]; exact ih) (Rx.pPat_good _ n)
end Go.Proofs.YtmlmnckhiianhaaDoor
