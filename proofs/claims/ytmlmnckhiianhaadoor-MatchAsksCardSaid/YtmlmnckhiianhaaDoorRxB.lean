/- The pattern reader's small functions, walked, second part. -/
import Derived.Test.YtmlmnckhiianhaaDoorRxA
namespace Go.Proofs.YtmlmnckhiianhaaDoor
open Go.RowKit
set_option linter.unusedVariables false

/-- turn: all other bytes. -/
theorem turn_calls (q : Nat → Int) (p : Nat → Bool) (w : World) (hq : SetV q p) :
    Calls Tryd.prog 78 #[.agg #[.int .u64 (q 0), .int .u64 (q 1), .int .u64 (q 2), .int .u64 (q 3)]] w fun e w' =>
      ∃ q' : Nat → Int, e = .returned (.agg #[.int .u64 (q' 0), .int .u64 (q' 1), .int .u64 (q' 2), .int .u64 (q' 3)]) ∧ SetV q' (fun x => !p x) ∧ Below w.heap.size w w' := by
  have key : ∃ q' : Nat → Int, SetV q' (fun x => !p x) ∧ ∀ i, i < 4 → bits .xor .u64 IntKind.u64.max (q i) = q' i := by
    refine ⟨fun i => bits .xor .u64 IntKind.u64.max (q i), fun i hi => ?_, fun i _ => rfl⟩
    obtain ⟨a, b, d⟩ := hq i hi
    obtain ⟨r, hr, r0, r1, hx⟩ := bit_not (q i) a b
    simp only [hr]
    exact ⟨r0, r1, fun x hx' => by rw [hx x hx', d x hx']⟩
  obtain ⟨q', hq', hx⟩ := key
  have h0 := hx 0 (by decide)
  have h1 := hx 1 (by decide)
  have h2 := hx 2 (by decide)
  have h3 := hx 3 (by decide)
  have HQ := Lib.hid hq'
  clear hx hq' hq
  have hsg : IntKind.u64.signed = false := rfl
  go_enter Tryd.func78, Tryd.ntmps78
  go_wp2
  refine wp_loop_rounds 5 ?_
  iterate 5 (rw [rounds_succ]; go_wp2)
  refine bodyPost_ret (v := .agg #[.int .u64 (q' 0), .int .u64 (q' 1), .int .u64 (q' 2), .int .u64 (q' 3)]) (by simp [results, Tryd.results78, go_sem]) rfl ⟨q', rfl, HQ.out, ?_⟩
  exact ((Below.refl _ _).alloc (Nat.le_refl _) _).alloc (by simp) _

/-- Is a byte next? -/
def pk (s : ByteArray) (i : Nat) (c : Nat) : Bool := decide ((bys s)[i]? = some c)

/-- peek. -/
theorem peek_calls (g : Nat) (s : ByteArray) (i : Nat) (deep bad : Int) (c : Nat) (ci : Int) (w : World) (hci : ci = c) (hs : s.size ≤ 64) (hp : PS w g s i deep bad) :
    Calls Tryd.prog 53 #[.pointer (some ⟨g, 0, none⟩), .int .u8 ci] w fun e w' => e = .returned (.bool (pk s i c)) ∧ ∃ n, w' = w.drewN n := by
  have h0 := hp.c0
  have h1 := hp.c1
  clear hp
  by_cases hlt : i < s.size
  · have hk : ((s[i].toNat : Int) == ci) = pk s i c := by
      rw [pk, bys_get s i hlt]
      simp only [Option.some.injEq]
      rw [Bool.eq_iff_iff]; simp only [beq_iff_eq, decide_eq_true_eq]; omega
    have hlt' : (i : Int) < s.size := by omega
    have HK := Lib.hid hk
    clear hk hci
    go_enter Tryd.func53, Tryd.ntmps53
    go_wp2
    go_quiet (fail)
    go_wp2
    go_ret
    exact ⟨congrArg (fun b => Ending.returned (.bool b)) HK.out, _, rfl⟩
  · have hk : pk s i c = false := by rw [pk, bys_ge s i (by omega)]; simp
    rw [hk]
    have hge : decide (i < s.size) = false := decide_eq_false (by omega)
    clear hk hlt hci
    go_enter Tryd.func53, Tryd.ntmps53
    go_wp2
    go_quiet (fail)
    go_wp2
    go_ret
    exact ⟨rfl, _, rfl⟩

/-- fail: the first fault stays; the reader stands at the end. -/
theorem fail_calls (g : Nat) (s : ByteArray) (i deep bad c : Int) (w : World) (hs : s.size ≤ 64) (hp : PS w g s i deep bad) :
    Calls Tryd.prog 37 #[.pointer (some ⟨g, 0, none⟩), .int .i64 c] w fun e w' =>
      (∃ q, e = .returned (.pointer q)) ∧ PS w' g s s.size deep (if bad = 0 then c else bad) ∧ Chg (· = g) w w' := by
  have h0 := hp.c0
  have h1 := hp.c1
  have h3 := hp.c3
  have f1 := hp.f 1
  have f3 := hp.f 3
  have HP := Lib.hid hp
  clear hp
  by_cases hz : bad = 0
  · have hz' : (bad == 0) = true := by simp [hz]
    have HZ := Lib.hid hz
    clear hz
    go_enter Tryd.func37, Tryd.ntmps37
    go_wp2
    go_ret
    refine ⟨⟨_, rfl⟩, ?_, ((((Chg.refl (· = g) w).setCell (p := ⟨g, 3, none⟩) (.inl rfl) _).setCell (p := ⟨g, 1, none⟩) (.inl rfl) _).alloc _)⟩
    try rw [if_pos HZ.out]
    exact (((HP.out.set3 c).set1 s.size).alloc _)
  · have hz' : (bad == 0) = false := by simp [hz]
    have HZ := Lib.hid hz
    clear hz
    go_enter Tryd.func37, Tryd.ntmps37
    go_wp2
    go_ret
    refine ⟨⟨_, rfl⟩, ?_, (((Chg.refl (· = g) w).setCell (p := ⟨g, 1, none⟩) (.inl rfl) _).alloc _)⟩
    try rw [if_neg HZ.out]
    exact ((HP.out.set1 s.size).alloc _)

theorem PS.cast {w : World} {g : Nat} {s : ByteArray} {a a' d b : Int} (h : PS w g s a d b) (e : a = a') : PS w g s a' d b := e ▸ h

/-- one: a byte of a class. -/
def OneRes (g : Nat) (s : ByteArray) (deep : Int) (w : World) (r : Except Nat (Nat × Nat)) (e : Ending) (w' : World) : Prop :=
  Chg (· = g) w w' ∧ match r with
  | .ok (c, j) => e = .returned (.int .u8 c) ∧ PS w' g s j deep 0 ∧ c < 256 ∧ j ≤ s.size
  | .error er => e = .returned (.int .u8 0) ∧ PS w' g s s.size deep er

set_option maxHeartbeats 1000000 in
theorem one_calls (g : Nat) (s : ByteArray) (i : Nat) (deep : Int) (w : World) (hs : s.size ≤ 64) (hi : i ≤ s.size) (hp : PS w g s i deep 0) :
    Calls Tryd.prog 81 #[.pointer (some ⟨g, 0, none⟩)] w (OneRes g s deep w (Rx.pOne (bys s) i)) := by
  have HP := Lib.hid hp
  have h0 := hp.c0
  have h1 := hp.c1
  have f1 := hp.f 1
  clear hp
  by_cases hb : (bys s)[i]? = some 92
  · have hi2 : i < s.size := by
      rcases Nat.lt_or_ge i s.size with h | h
      · exact h
      · rw [bys_ge s i h] at hb; cases hb
    have hk : pk s i 92 = true := by simp [pk, hb]
    by_cases hj : i + 1 < s.size
    · have hr : Rx.pOne (bys s) i = .ok (s[i + 1].toNat, i + 2) := by simp [Rx.pOne, hb, bys_get s (i + 1) hj]
      rw [hr]
      clear hr hb
      have hj' : ((i : Int) + 1) < s.size := by omega
      have hge : decide ((s.size : Int) ≤ (i : Int) + 1) = false := decide_eq_false (by omega)
      go_enter Tryd.func81, Tryd.ntmps81
      go_wp2_with (go_at_call 53; refine (peek_calls g s i deep 0 92 _ _ rfl hs HP.out).mono ?_; rintro e w1 ⟨rfl, n, rfl⟩)
      go_quiet (fail)
      go_wp2
      have w1 : IntKind.i64.wrap ((i : Int) + 1) = (i : Int) + 1 := IntWalk.i64_in _ (by omega)
      have w2 : IntKind.i64.wrap ((i : Int) + 1 + 1 - 1) = (i : Int) + 1 := (IntWalk.i64_in _ (by omega)).trans (by omega)
      have w3 : (0 : Int) ≤ (i : Int) + 1 := by omega
      have w4 : ((i : Int) + 1).toNat = i + 1 := by omega
      go_quiet (fail)
      go_wp2
      go_ret
      exact ⟨((((Chg.refl (· = g) w).drewN n).setCell (p := ⟨g, 1, none⟩) (.inl rfl) _).drewN _).setCell (p := ⟨g, 1, none⟩) (.inl rfl) _ |>.drewN _, rfl,
        (((((HP.out.drewN n).set1 _).drewN _).set1 _).drewN _).cast (by omega), UInt8.toNat_lt _, by omega⟩
    · have hr : Rx.pOne (bys s) i = .error 27 := by simp [Rx.pOne, hb, bys_ge s (i + 1) (by omega)]
      rw [hr]
      clear hr hb
      have hge : decide ((s.size : Int) ≤ (i : Int) + 1) = true := decide_eq_true (by omega)
      go_enter Tryd.func81, Tryd.ntmps81
      go_wp2_with (go_at_call 53; refine (peek_calls g s i deep 0 92 _ _ rfl hs HP.out).mono ?_; rintro e w1 ⟨rfl, n, rfl⟩)
      go_quiet (fail)
      go_wp2_with (go_at_call 37; refine (fail_calls g s _ deep 0 27 _ hs (((HP.out.drewN _).set1 _).drewN _)).mono ?_; rintro e w1 ⟨⟨q, rfl⟩, hp1, hc1⟩)
      go_ret
      exact ⟨(((((Chg.refl (· = g) w).drewN n).setCell (p := ⟨g, 1, none⟩) (.inl rfl) _).drewN _).trans hc1), rfl, by simpa using hp1⟩
  · have hk : pk s i 92 = false := by simp [pk, hb]
    by_cases hj : i < s.size
    · have hr : Rx.pOne (bys s) i = .ok (s[i].toNat, i + 1) := by unfold Rx.pOne; rw [if_neg hb]; simp only [bys_get s i hj]
      rw [hr]
      clear hr hb
      have hge : decide (s.size ≤ i) = false := decide_eq_false (by omega)
      go_enter Tryd.func81, Tryd.ntmps81
      go_wp2_with (go_at_call 53; refine (peek_calls g s i deep 0 92 _ _ rfl hs HP.out).mono ?_; rintro e w1 ⟨rfl, n, rfl⟩)
      go_quiet (fail)
      go_wp2
      have w1 : IntKind.i64.wrap ((i : Int) + 1 - 1) = (i : Int) := (IntWalk.i64_in _ (by omega)).trans (by omega)
      have w3 : (i : Int) < s.size := by omega
      go_quiet (fail)
      go_wp2
      go_ret
      exact ⟨(((Chg.refl (· = g) w).drewN _).setCell (p := ⟨g, 1, none⟩) (.inl rfl) _ |>.drewN _), rfl,
        (((HP.out.drewN _).set1 _).drewN _).cast (by omega), UInt8.toNat_lt _, by omega⟩
    · have hr : Rx.pOne (bys s) i = .error 27 := by unfold Rx.pOne; rw [if_neg hb]; simp only [bys_ge s i (show s.size ≤ i by omega)]
      rw [hr]
      clear hr hb
      have hge : decide (s.size ≤ i) = true := decide_eq_true (by omega)
      go_enter Tryd.func81, Tryd.ntmps81
      go_wp2_with (go_at_call 53; refine (peek_calls g s i deep 0 92 _ _ rfl hs HP.out).mono ?_; rintro e w1 ⟨rfl, n, rfl⟩)
      go_quiet (fail)
      go_wp2_with (go_at_call 37; refine (fail_calls g s _ deep 0 27 _ hs (HP.out.drewN _)).mono ?_; rintro e w1 ⟨⟨q, rfl⟩, hp1, hc1⟩)
      go_ret
      exact ⟨(((Chg.refl (· = g) w).drewN _).trans hc1), rfl, by simpa using hp1⟩
end Go.Proofs.YtmlmnckhiianhaaDoor
