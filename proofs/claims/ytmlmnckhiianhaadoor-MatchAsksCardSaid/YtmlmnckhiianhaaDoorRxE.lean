/- How often a part comes; rows; rows with bars between; walked. -/
import Derived.Test.YtmlmnckhiianhaaDoorRxD
namespace Go.Proofs.YtmlmnckhiianhaaDoor
open Go.RowKit
set_option linter.unusedVariables false
set_option linter.unusedSimpArgs false

theorem blk_new' (w : World) (o : Obj) (n : Nat) (h : n = w.heap.size) : (w.alloc o).heap[n]? = some o := h ▸ blk_new w o

theorem part_ok (g : Nat) (s : ByteArray) (i : Nat) (deep : Int) (f : Nat → Except Nat (Rx × Nat)) (w : World) (hs : s.size ≤ 64) (hi : i < s.size) (hp : PS w g s i deep 0) (HF : Rec g s deep f) {x : Rx} {j : Nat} (h : Rx.pPart f (bys s) i = .ok (x, j)) :
    Calls Tryd.prog 74 #[.pointer (some ⟨g, 0, none⟩)] w fun e w' => ∃ b, e = .returned (.pointer (some ⟨b, 0, none⟩)) ∧ At w' (fun k => w.heap.size ≤ k) b x ∧ PS w' g s (j : Nat) deep 0 ∧ j ≤ s.size ∧ Chg (· = g) w w' :=
  (part_calls g s i deep f w hs hi hp HF).mono fun e w' hr => by rw [h] at hr; obtain ⟨hc, b, a1, a2, a3, a4⟩ := hr; exact ⟨b, a1, a2, a3, a4, hc⟩
theorem part_err (g : Nat) (s : ByteArray) (i : Nat) (deep : Int) (f : Nat → Except Nat (Rx × Nat)) (w : World) (hs : s.size ≤ 64) (hi : i < s.size) (hp : PS w g s i deep 0) (HF : Rec g s deep f) {er : Nat} (h : Rx.pPart f (bys s) i = .error er) :
    Calls Tryd.prog 74 #[.pointer (some ⟨g, 0, none⟩)] w fun e w' => ∃ q d, e = .returned (.pointer q) ∧ PS w' g s s.size d er ∧ er ≠ 0 ∧ Chg (· = g) w w' :=
  (part_calls g s i deep f w hs hi hp HF).mono fun e w' hr => by rw [h] at hr; obtain ⟨hc, ⟨q, a1⟩, ⟨d, a2⟩, a3⟩ := hr; exact ⟨q, d, a1, a2, a3, hc⟩

/-- A part with one part in it, new. -/
theorem At.one {w : World} {S : Nat → Prop} {b b' gk : Nat} {x y : Rx} {q : Nat → Int} {cs : Array Value} {c : Nat} (hk : kidsOf x = [y]) (hx : ∀ P, x ≠ .byte P) (hb : NB w b (kindOf x) q (.slice (some ⟨gk, 0, none⟩) 1 c)) (hS : S b) (hg : S gk) (hc : 1 ≤ c)
    (hcs : w.heap[gk]? = some (.cells cs 81 (0, 0))) (h0 : cs[0]? = some (.pointer (some ⟨b', 0, none⟩))) (hy : At w S b' y) : At w S b x :=
  .mk b x q _ [b'] hS hb (fun P e => absurd e (hx P)) (by rw [hk]; rfl) (.inr ⟨gk, c, rfl, hg, hc, cs, hcs, fun i b1 h => by
    match i, h with
    | 0, h => simp at h; subst h; exact h0⟩) (fun i b1 y1 h h' => by
    rw [hk] at h'
    match i, h, h' with
    | 0, h, h' => simp at h h'; subst h; subst h'; exact hy)

set_option maxHeartbeats 4000000 in
theorem times_calls (g : Nat) (s : ByteArray) (i : Nat) (deep : Int) (f : Nat → Except Nat (Rx × Nat)) (w : World) (hs : s.size ≤ 64) (hi : i < s.size) (hp : PS w g s i deep 0) (HF : Rec g s deep f) :
    Calls Tryd.prog 65 #[.pointer (some ⟨g, 0, none⟩)] w (PRes g s deep w (Rx.pTimes f (bys s) i)) := by
  have hg := hp.lt
  cases hf : Rx.pPart f (bys s) i with
  | error er =>
    have hR : Rx.pTimes f (bys s) i = .error er := by simp only [Rx.pTimes, hf]
    rw [hR]
    clear hR
    have HFF := Lib.hid hf
    clear hf
    go_enter Tryd.func65, Tryd.ntmps65
    go_wp2_with (go_at_call 74; ((with_reducible refine (part_err g s i deep f _ hs hi hp HF HFF.out).mono ?_); rintro e w2 ⟨q2, d2, rfl, hp_w2, hne, hc_w2⟩); have a0 := hp_w2.c0; have a1 := hp_w2.c1)
    refine wp_loop_rounds 1 ?_
    rw [rounds_succ]
    have hge : decide ((s.size : Int) < s.size) = false := decide_eq_false (by omega)
    go_wp2
    go_quiet (fail)
    go_wp2
    go_ret
    exact ⟨hc_w2.drewN _, ⟨_, rfl⟩, ⟨d2, hp_w2.drewN _⟩, hne⟩
  | ok xj =>
    obtain ⟨x0, j0⟩ := xj
    obtain ⟨R, hR0⟩ : ∃ R, Rx.pSigns (bys s) ((bys s).length + 1) j0 x0 = R := ⟨_, rfl⟩
    have hR : Rx.pTimes f (bys s) i = .ok R := by simp only [Rx.pTimes, hf, hR0]
    rw [hR]
    clear hR
    rw [bys_len] at hR0
    have HFF := Lib.hid hf
    have HR := Lib.hid hR0
    clear hf hR0
    go_enter Tryd.func65, Tryd.ntmps65
    go_wp2_with (go_at_call 74; ((with_reducible refine (part_ok g s i deep f _ hs hi hp HF HFF.out).mono ?_); rintro e w2 ⟨b2, rfl, hat, hp_w2, hj2, hc_w2⟩))
    have HAT := Lib.hid hat
    clear hat
    go_loopg [3] (s.size + 1) (fun k v wr => ∃ (b : Nat) (x : Rx) (j : Nat), v = .pointer (some ⟨b, 0, none⟩) ∧ Hid (At wr (fun k => w.heap.size ≤ k) b x) ∧ PS wr g s (j : Nat) deep 0 ∧ j ≤ s.size ∧ Chg (· = g) w wr ∧ s.size < j + k ∧ Hid (Rx.pSigns (bys s) k j x = R))
    case atStart => exact ⟨b2, x0, j0, rfl, HAT, hp_w2, hj2, hc_w2, by omega, HR⟩
    case round =>
      obtain ⟨b, x, j, rfl, hat, hp2, hj, hc, hfu, hL⟩ := hrel
      obtain ⟨k0, rfl⟩ : ∃ m : Nat, m + 1 = gk := ⟨gk - 1, by omega⟩
      obtain ⟨wo, rfl⟩ : ∃ m : World, m = wr := ⟨_, rfl⟩
      have a0 := hp2.c0
      have a1 := hp2.c1
      have f1 := hp2.f 1
      clear hp hp_w2 HR HFF
      by_cases hlt : j < s.size
      · have hlt' : (j : Int) < s.size := by omega
        have hb := bys_get s j hlt
        by_cases hsg : s[j].toNat = 42 ∨ s[j].toNat = 43 ∨ s[j].toNat = 63
        · rcases hsg with hv | hv | hv
          · have hL2 := hL.out
            simp only [Rx.pSigns, hb, Rx.sign, hv] at hL2
            simp at hL2
            have HL := Lib.hid hL2
            clear hL hL2 hb
            go_wp2
            go_quiet (fail)
            go_wp2
            go_quiet (fail)
            go_wp2
            go_roundg k0
            case measure => omega
            case rel =>
              have hz := hc.size
              refine ⟨_, .star x, j + 1, rfl, Lib.hid (At.one (x := .star x) (q := fun _ => 0) rfl (fun P e => by cases e) (show NB _ _ _ _ _ from blk_new' _ _ _ (by simp [size_set])) (by first | omega | (simp [size_set]; omega)) (by first | omega | (simp [size_set]; omega)) (Nat.le_refl _) (blk_alloc (blk_new' _ _ _ (by simp [size_set])) _) rfl ?_), ?_, by omega, ?_, by omega, HL⟩
              · exact hat.out.chg (((((Chg.refl (· = g) wo).drewN _).setCell (p := ⟨g, 1, none⟩) (.inl rfl) _).alloc _).alloc _) (fun k hk hS => by first | omega | (simp [size_set] at hS ⊢; omega)) (fun k hk hS => hS)
              · exact ((((hp2.drewN _).set1 _).cast (by omega)).alloc _).alloc _
              · exact (((hc.drewN _).setCell (p := ⟨g, 1, none⟩) (.inl rfl) _).alloc _).alloc _
          · have hL2 := hL.out
            simp only [Rx.pSigns, hb, Rx.sign, hv] at hL2
            simp at hL2
            have HL := Lib.hid hL2
            clear hL hL2 hb
            go_wp2
            go_quiet (fail)
            go_wp2
            go_quiet (fail)
            go_wp2
            go_roundg k0
            case measure => omega
            case rel =>
              have hz := hc.size
              refine ⟨_, .plus x, j + 1, rfl, Lib.hid (At.one (x := .plus x) (q := fun _ => 0) rfl (fun P e => by cases e) (show NB _ _ _ _ _ from blk_new' _ _ _ (by simp [size_set])) (by first | omega | (simp [size_set]; omega)) (by first | omega | (simp [size_set]; omega)) (Nat.le_refl _) (blk_alloc (blk_new' _ _ _ (by simp [size_set])) _) rfl ?_), ?_, by omega, ?_, by omega, HL⟩
              · exact hat.out.chg (((((Chg.refl (· = g) wo).drewN _).setCell (p := ⟨g, 1, none⟩) (.inl rfl) _).alloc _).alloc _) (fun k hk hS => by first | omega | (simp [size_set] at hS ⊢; omega)) (fun k hk hS => hS)
              · exact ((((hp2.drewN _).set1 _).cast (by omega)).alloc _).alloc _
              · exact (((hc.drewN _).setCell (p := ⟨g, 1, none⟩) (.inl rfl) _).alloc _).alloc _
          · have hL2 := hL.out
            simp only [Rx.pSigns, hb, Rx.sign, hv] at hL2
            simp at hL2
            have HL := Lib.hid hL2
            clear hL hL2 hb
            go_wp2
            go_quiet (fail)
            go_wp2
            go_quiet (fail)
            go_wp2
            go_roundg k0
            case measure => omega
            case rel =>
              have hz := hc.size
              refine ⟨_, .maybe x, j + 1, rfl, Lib.hid (At.one (x := .maybe x) (q := fun _ => 0) rfl (fun P e => by cases e) (show NB _ _ _ _ _ from blk_new' _ _ _ (by simp [size_set])) (by first | omega | (simp [size_set]; omega)) (by first | omega | (simp [size_set]; omega)) (Nat.le_refl _) (blk_alloc (blk_new' _ _ _ (by simp [size_set])) _) rfl ?_), ?_, by omega, ?_, by omega, HL⟩
              · exact hat.out.chg (((((Chg.refl (· = g) wo).drewN _).setCell (p := ⟨g, 1, none⟩) (.inl rfl) _).alloc _).alloc _) (fun k hk hS => by first | omega | (simp [size_set] at hS ⊢; omega)) (fun k hk hS => hS)
              · exact ((((hp2.drewN _).set1 _).cast (by omega)).alloc _).alloc _
              · exact (((hc.drewN _).setCell (p := ⟨g, 1, none⟩) (.inl rfl) _).alloc _).alloc _
        · have hL2 := hL.out
          have hn : Rx.sign (some s[j].toNat) x = none := by
            simp only [Rx.sign, Option.some.injEq]
            rw [if_neg (fun h => hsg (.inl h)), if_neg (fun h => hsg (.inr (.inl h))), if_neg (fun h => hsg (.inr (.inr h)))]
          simp only [Rx.pSigns, hb, hn] at hL2
          have HL := Lib.hid hL2
          have e1 : ((s[j].toNat : Int) == 42) = false := eqb_no (fun h => hsg (.inl h))
          have e2 : ((s[j].toNat : Int) == 43) = false := eqb_no (fun h => hsg (.inr (.inl h)))
          have e3 : ((s[j].toNat : Int) == 63) = false := eqb_no (fun h => hsg (.inr (.inr h)))
          clear hL hL2 hb hn hsg
          go_wp2
          go_quiet (fail)
          go_wp2
          go_quiet (fail)
          go_wp2
          go_ret
          rw [← HL.out]
          exact ⟨(hc.drewN _), b, rfl, hat.out.chg ((Chg.refl (· = g) _).drewN _) (fun k hk hS => by first | omega | (simp at hS ⊢; omega)) (fun k hk hS => hS), hp2.drewN _, hj⟩
      · have hge : decide (j < s.size) = false := decide_eq_false hlt
        have hL2 := hL.out
        simp only [Rx.pSigns, bys_ge s j (show s.size ≤ j by omega), Rx.sign] at hL2
        simp at hL2
        have HL := Lib.hid hL2
        clear hL hL2
        go_wp2
        go_quiet (fail)
        go_wp2
        go_ret
        rw [← HL.out]
        exact ⟨(hc.drewN _), b, rfl, hat.out.chg ((Chg.refl (· = g) _).drewN _) (fun k hk hS => by first | omega | (simp at hS ⊢; omega)) (fun k hk hS => hS), hp2.drewN _, hj⟩
end Go.Proofs.YtmlmnckhiianhaaDoor
