/- RegexMatches, walked. -/
import Derived.Test.YtaaonhaighdlaaaRfN
import Derived.BigQuiet
namespace Go.Proofs.Ytaaonhaighdlaaa
open Go.RowKit Go.Sort
set_option linter.unusedVariables false
set_option linter.unusedSimpArgs false

theorem count_le (l : List UInt8) (c : UInt8) : Lib.countByte l c ≤ l.length := by unfold Lib.countByte; exact List.count_le_length
set_option maxHeartbeats 4000000 in
theorem stars_calls (p : ByteArray) (hp : p.size ≤ 200) (w : World) : Calls Try.prog 15 #[.string p] w fun e w' => ∃ n : Int, e = .returned (.int .i64 n) ∧ Below w.heap.size w w' := by
  have hl : p.data.toList.length = p.size := rfl
  have h1 := count_le p.data.toList 42
  have h2 := count_le p.data.toList 43
  have h3 := count_le p.data.toList 63
  have k1 : ∀ w, Calls Try.prog 26 #[.string p, .string ⟨#[42]⟩] w fun e w' => e = .returned (.int .i64 (Lib.countByte p.data.toList 42)) ∧ w' = w := fun w => strings_Count_one p 42 w
  have k2 : ∀ w, Calls Try.prog 26 #[.string p, .string ⟨#[43]⟩] w fun e w' => e = .returned (.int .i64 (Lib.countByte p.data.toList 43)) ∧ w' = w := fun w => strings_Count_one p 43 w
  have k3 : ∀ w, Calls Try.prog 26 #[.string p, .string ⟨#[63]⟩] w fun e w' => e = .returned (.int .i64 (Lib.countByte p.data.toList 63)) ∧ w' = w := fun w => strings_Count_one p 63 w
  generalize Lib.countByte p.data.toList 42 = n1 at *
  generalize Lib.countByte p.data.toList 43 = n2 at *
  generalize Lib.countByte p.data.toList 63 = n3 at *
  go_enter Try.func15, Try.ntmps15
  go_wp2_with (first | (go_at_call 26; (fail_if_success (have := t1)); (refine (k1 _).mono ?_; rintro e w' ⟨rfl, rfl⟩; have t1 : True := trivial)) | (go_at_call 26; (fail_if_success (have := t2)); (refine (k2 _).mono ?_; rintro e w' ⟨rfl, rfl⟩; have t2 : True := trivial)) | (go_at_call 26; (refine (k3 _).mono ?_; rintro e w' ⟨rfl, rfl⟩)))
  go_ret
  exact ⟨_, rfl, Below.refl _ _⟩

theorem Parse_bad2 (s : ByteArray) (er : Nat) (h : Rx.parse (bys s) = .error er) (w : World) :
    Calls Try.prog 9 #[.string s] w fun e w' => e = .returned (.tuple #[.agg #[.slice none 0 0], .int .i64 er]) ∧ er ≠ 0 ∧ Below w.heap.size w w' :=
  (Parse_calls s w).mono fun e w' hp => by
    unfold ParseRes at hp
    rw [h] at hp
    exact ⟨hp.2.1, hp.2.2, hp.1⟩
theorem RParse_bad (s : ByteArray) (er : Nat) (h : Rx.parse (bys s) = .error er) (w : World) :
    Calls Try.prog 14 #[.string s] w fun e w' => Below w.heap.size w w' ∧ er ≠ 0 ∧ ∃ K A1 m1 c1 A2 m2 c2, e = .returned (.tuple #[.agg #[.string K, .slice A1 m1 c1, .slice A2 m2 c2], .int .i64 er]) :=
  (RParse_calls s w).mono fun e w' hp => by unfold RParse at hp; rw [h] at hp; exact hp
theorem RParse_ok (s : ByteArray) (x : Rx) (h : Rx.parse (bys s) = .ok x) (w : World) :
    Calls Try.prog 14 #[.string s] w fun e w' => Below w.heap.size w w' ∧ ∃ K A1 m1 c1 A2 m2 c2, e = .returned (.tuple #[.agg #[.string K, .slice A1 m1 c1, .slice A2 m2 c2], .int .i64 0]) ∧ NV w' (fun k => w.heap.size ≤ k) (K, .slice A1 m1 c1, .slice A2 m2 c2) x :=
  (RParse_calls s w).mono fun e w' hp => by unfold RParse at hp; rw [h] at hp; exact hp

set_option maxHeartbeats 4000000 in
theorem matches_bad (p s t : ByteArray) (w : World) (hp : p.size ≤ 200) (hs : s.size ≤ 40) (ht : t.size ≤ 40) (er : Nat) (hx : Rx.parse (bys p) = .error er) : Calls Try.prog 7 #[.string p, .string s, .string t] w fun e w' => e = .returned (.bool true) ∧ Below w.heap.size w w' := by
  have h0 : decide ((200 : Int) < (p.size : Int)) = false := decide_eq_false (by omega)
  have h1 : decide ((40 : Int) < (s.size : Int)) = false := decide_eq_false (by omega)
  have h2 : decide ((40 : Int) < (t.size : Int)) = false := decide_eq_false (by omega)
  have HX := Lib.hid hx
  clear hx
  go_enter Try.func7, Try.ntmps7
  go_wp2_with (first | (go_at_call 9; ((refine (Parse_bad2 _ er (by exact HX.out) _).mono ?_); rintro e wP ⟨rfl, hne, hbP⟩; have hz : ((er : Int) == 0) = false := eqb_no hne; have hzb : ((er : Int) != 0) = true := congrArg (!·) hz)) | (go_at_call 14; ((refine (RParse_bad _ er (by exact HX.out) _).mono ?_); rintro e wR ⟨hbR, hne2, K2, A1, m1, c1, A2, m2, c2, rfl⟩)) | (go_at_call 8; ((refine (awake_calls _).mono ?_); rintro e wA ⟨rfl, hbA⟩; have hxA : wA.cell? ⟨wP.heap.size, 0, none⟩ = some (.slice none 0 0) := (blk_cell (o := 0) ((show Chg (fun _ => False) (wP.alloc (.cells #[.slice none 0 0] 25)) wA by (repeat (first | exact Chg.refl _ _ | with_reducible apply Chg.alloc | with_reducible apply Chg.drewN | with_reducible apply Chg.drew | with_reducible refine Chg.trans ?_ (Chg.of_below hbM) | with_reducible refine Chg.trans ?_ (Chg.of_below hbA) | with_reducible refine Chg.trans ?_ (Chg.of_below hbS) | with_reducible refine Chg.trans ?_ (Chg.of_below hbR) | with_reducible refine Chg.trans ?_ (Chg.of_below hbP)))).blk (blk_new wP _) id)).trans rfl)) | (go_at_call 10; ((refine (Match_zero _ _).mono ?_); rintro e wM ⟨rfl, hbM⟩)))
  go_ret
  exact ⟨rfl, (show Chg (fun _ => False) w wM by (repeat (first | exact Chg.refl _ _ | with_reducible apply Chg.alloc | with_reducible apply Chg.drewN | with_reducible apply Chg.drew | with_reducible refine Chg.trans ?_ (Chg.of_below hbM) | with_reducible refine Chg.trans ?_ (Chg.of_below hbA) | with_reducible refine Chg.trans ?_ (Chg.of_below hbS) | with_reducible refine Chg.trans ?_ (Chg.of_below hbR) | with_reducible refine Chg.trans ?_ (Chg.of_below hbP)))).below fun _ _ h => h⟩

set_option maxHeartbeats 4000000 in
theorem matches_fine (p s t : ByteArray) (w : World) (hp : p.size ≤ 200) (hs : s.size ≤ 40) (ht : t.size ≤ 40) (x : Rx) (hx : Rx.parse (bys p) = .ok x) : Calls Try.prog 7 #[.string p, .string s, .string t] w fun e w' => e = .returned (.bool true) ∧ Below w.heap.size w w' := by
  have h0 : decide ((200 : Int) < (p.size : Int)) = false := decide_eq_false (by omega)
  have h1 : decide ((40 : Int) < (s.size : Int)) = false := decide_eq_false (by omega)
  have h2 : decide ((40 : Int) < (t.size : Int)) = false := decide_eq_false (by omega)
  have HX := Lib.hid hx
  clear hx
  go_enter Try.func7, Try.ntmps7
  go_wp2_with (first | (go_at_call 9; ((refine (Parse_ok _ x (by exact HX.out) _).mono ?_); rintro e wP ⟨vP, rfl, hvP, hbP⟩; have hlP := hbP.size; obtain ⟨gP, cP, rfl, -⟩ := id hvP.open; have HVP := Lib.hid hvP; clear hvP)) | (go_at_call 14; ((refine (RParse_ok _ x (by exact HX.out) _).mono ?_); rintro e wR ⟨hbR, K2, A1, m1, c1, A2, m2, c2, rfl, hnv⟩; have HNV := Lib.hid hnv; clear hnv)) | (go_at_call 15; ((refine (stars_calls _ hp _).mono ?_); rintro e wS ⟨nst, rfl, hbS⟩)))
  · go_wp2_with (go_at_call 8; ((refine (awake_calls _).mono ?_); rintro e wA ⟨rfl, hbA⟩))
    go_ret
    exact ⟨rfl, (show Chg (fun _ => False) w wA by (repeat (first | exact Chg.refl _ _ | with_reducible apply Chg.alloc | with_reducible apply Chg.drewN | with_reducible apply Chg.drew | with_reducible refine Chg.trans ?_ (Chg.of_below hbM) | with_reducible refine Chg.trans ?_ (Chg.of_below hbA) | with_reducible refine Chg.trans ?_ (Chg.of_below hbS) | with_reducible refine Chg.trans ?_ (Chg.of_below hbR) | with_reducible refine Chg.trans ?_ (Chg.of_below hbP)))).below fun _ _ h => h⟩
  · have HBW := Lib.hid ((show Chg (fun _ => False) w wS by (repeat (first | exact Chg.refl _ _ | with_reducible apply Chg.alloc | with_reducible apply Chg.drewN | with_reducible apply Chg.drew | with_reducible refine Chg.trans ?_ (Chg.of_below hbM) | with_reducible refine Chg.trans ?_ (Chg.of_below hbA) | with_reducible refine Chg.trans ?_ (Chg.of_below hbS) | with_reducible refine Chg.trans ?_ (Chg.of_below hbR) | with_reducible refine Chg.trans ?_ (Chg.of_below hbP)))).below fun _ _ h => h)
    have HR : Hid (RegV wS (fun _ => True) (.slice (some ⟨gP, 0, none⟩) x.table.length cP) x.table) := Lib.hid (HVP.out.below ((show Chg (fun _ => False) wP wS by (repeat (first | exact Chg.refl _ _ | with_reducible apply Chg.alloc | with_reducible apply Chg.drewN | with_reducible apply Chg.drew | with_reducible refine Chg.trans ?_ (Chg.of_below hbM) | with_reducible refine Chg.trans ?_ (Chg.of_below hbA) | with_reducible refine Chg.trans ?_ (Chg.of_below hbS) | with_reducible refine Chg.trans ?_ (Chg.of_below hbR) | with_reducible refine Chg.trans ?_ (Chg.of_below hbP)))).below fun _ _ h => h))
    have HN : Hid (NV wS (fun _ => True) (K2, .slice A1 m1 c1, .slice A2 m2 c2) x) := Lib.hid ((HNV.out.frame (S' := fun _ => True) fun k hk _ => ⟨rfl, trivial⟩).up ((show Chg (fun _ => False) wR wS by (repeat (first | exact Chg.refl _ _ | with_reducible apply Chg.alloc | with_reducible apply Chg.drewN | with_reducible apply Chg.drew | with_reducible refine Chg.trans ?_ (Chg.of_below hbM) | with_reducible refine Chg.trans ?_ (Chg.of_below hbA) | with_reducible refine Chg.trans ?_ (Chg.of_below hbS) | with_reducible refine Chg.trans ?_ (Chg.of_below hbR) | with_reducible refine Chg.trans ?_ (Chg.of_below hbP)))).below fun _ _ h => h))
    have bR := blk_cell (o := 0) ((show Chg (fun _ => False) (wP.alloc (.cells #[.slice (some ⟨gP, 0, none⟩) x.table.length cP] 25)) wS by (repeat (first | exact Chg.refl _ _ | with_reducible apply Chg.alloc | with_reducible apply Chg.drewN | with_reducible apply Chg.drew | with_reducible refine Chg.trans ?_ (Chg.of_below hbM) | with_reducible refine Chg.trans ?_ (Chg.of_below hbA) | with_reducible refine Chg.trans ?_ (Chg.of_below hbS) | with_reducible refine Chg.trans ?_ (Chg.of_below hbR) | with_reducible refine Chg.trans ?_ (Chg.of_below hbP)))).blk (blk_new wP _) id)
    have hN3 : NX wS wR.heap.size K2 (.slice A1 m1 c1) (.slice A2 m2 c2) := (show Chg (fun _ => False) (wR.alloc (.cells #[.string K2, .slice A1 m1 c1, .slice A2 m2 c2] 40)) wS by (repeat (first | exact Chg.refl _ _ | with_reducible apply Chg.alloc | with_reducible apply Chg.drewN | with_reducible apply Chg.drew | with_reducible refine Chg.trans ?_ (Chg.of_below hbM) | with_reducible refine Chg.trans ?_ (Chg.of_below hbA) | with_reducible refine Chg.trans ?_ (Chg.of_below hbS) | with_reducible refine Chg.trans ?_ (Chg.of_below hbR) | with_reducible refine Chg.trans ?_ (Chg.of_below hbP)))).blk (blk_new wR _) id
    have kR : ∀ d os, (grow (redrawn wS d) os).cell? ⟨wP.heap.size, 0, none⟩ = some (.slice (some ⟨gP, 0, none⟩) x.table.length cP) := fun d os => cell_regrown (bR.trans rfl) d os
    have kN0 : ∀ d os, (grow (redrawn wS d) os).cell? ⟨wR.heap.size, 0, none⟩ = some (.string K2) := fun d os => cell_regrown hN3.c0 d os
    have kN1 : ∀ d os, (grow (redrawn wS d) os).cell? ⟨wR.heap.size, 1, none⟩ = some (.slice A1 m1 c1) := fun d os => cell_regrown hN3.c1 d os
    have kN2 : ∀ d os, (grow (redrawn wS d) os).cell? ⟨wR.heap.size, 2, none⟩ = some (.slice A2 m2 c2) := fun d os => cell_regrown hN3.c2 d os
    have cW : ∀ d os, Calls Try.prog 8 #[] (grow (redrawn wS d) os) fun e w'' => e = .returned (.bool true) ∧ ∃ p : Regrown, w'' = grow (redrawn wS p.d) p.os := fun d os => Calls.regrown_of (awake_calls _)
    have q1 : ∀ d os, Calls Try.prog 10 #[.agg #[.slice (some ⟨gP, 0, none⟩) x.table.length cP], .string s] (grow (redrawn wS d) os) fun e w'' => e = .returned (.bool (mt x (bys s))) ∧ ∃ p : Regrown, w'' = grow (redrawn wS p.d) p.os := fun d os => Calls.regrown_of (Match_ok x (by have := Rx.parse_sz HX.out; omega) _ s (by omega) _ (HR.out.below (below_regrown wS d os)))
    have q2 : ∀ d os, Calls Try.prog 10 #[.agg #[.slice (some ⟨gP, 0, none⟩) x.table.length cP], .string t] (grow (redrawn wS d) os) fun e w'' => e = .returned (.bool (mt x (bys t))) ∧ ∃ p : Regrown, w'' = grow (redrawn wS p.d) p.os := fun d os => Calls.regrown_of (Match_ok x (by have := Rx.parse_sz HX.out; omega) _ t (by omega) _ (HR.out.below (below_regrown wS d os)))
    have q3 : ∀ d os, Calls Try.prog 16 #[.agg #[.string K2, .slice A1 m1 c1, .slice A2 m2 c2], .string s] (grow (redrawn wS d) os) fun e w'' => e = .returned (.bool (mt x (bys s))) ∧ ∃ p : Regrown, w'' = grow (redrawn wS p.d) p.os := fun d os => Calls.regrown_of (RMatch_calls s (by omega) x (by have := Rx.parse_sz HX.out; omega) K2 A1 A2 m1 c1 m2 c2 _ (HN.out.up (below_regrown wS d os)))
    have q4 : ∀ d os, Calls Try.prog 16 #[.agg #[.string K2, .slice A1 m1 c1, .slice A2 m2 c2], .string t] (grow (redrawn wS d) os) fun e w'' => e = .returned (.bool (mt x (bys t))) ∧ ∃ p : Regrown, w'' = grow (redrawn wS p.d) p.os := fun d os => Calls.regrown_of (RMatch_calls t (by omega) x (by have := Rx.parse_sz HX.out; omega) K2 A1 A2 m1 c1 m2 c2 _ (HN.out.up (below_regrown wS d os)))
    clear hbP hbR hbS hlP bR hN3 HR HN HNV HVP
    generalize mt x (bys s) = M1 at *
    generalize mt x (bys t) = M2 at *
    cases M1 with
    | true =>
      cases M2 with
      | true =>
        refine wp_region_quiet_below (by kernel_rfl) (by kernel_rfl) ?_
        repeat (go_big_quiet_step (first | with_reducible exact cW _ _ | with_reducible exact q1 _ _ | with_reducible exact q2 _ _ | with_reducible exact q3 _ _ | with_reducible exact q4 _ _))
        refine wpQuiet_nil ?_
        intro _ hw'
        obtain ⟨⟨dq, osq⟩, hw''⟩ := hw'
        subst hw''
        go_wp2
        go_ret
        exact ⟨rfl, below_then HBW.out (below_regrown wS dq osq)⟩
      | false =>
        refine wp_region_quiet_below (by kernel_rfl) (by kernel_rfl) ?_
        repeat (go_big_quiet_step (first | with_reducible exact cW _ _ | with_reducible exact q1 _ _ | with_reducible exact q2 _ _ | with_reducible exact q3 _ _ | with_reducible exact q4 _ _))
        refine wpQuiet_nil ?_
        intro _ hw'
        obtain ⟨⟨dq, osq⟩, hw''⟩ := hw'
        subst hw''
        go_wp2
        go_ret
        exact ⟨rfl, below_then HBW.out (below_regrown wS dq osq)⟩
    | false =>
      cases M2 with
      | true =>
        refine wp_region_quiet_below (by kernel_rfl) (by kernel_rfl) ?_
        repeat (go_big_quiet_step (first | with_reducible exact cW _ _ | with_reducible exact q1 _ _ | with_reducible exact q2 _ _ | with_reducible exact q3 _ _ | with_reducible exact q4 _ _))
        refine wpQuiet_nil ?_
        intro _ hw'
        obtain ⟨⟨dq, osq⟩, hw''⟩ := hw'
        subst hw''
        go_wp2
        go_ret
        exact ⟨rfl, below_then HBW.out (below_regrown wS dq osq)⟩
      | false =>
        refine wp_region_quiet_below (by kernel_rfl) (by kernel_rfl) ?_
        repeat (go_big_quiet_step (first | with_reducible exact cW _ _ | with_reducible exact q1 _ _ | with_reducible exact q2 _ _ | with_reducible exact q3 _ _ | with_reducible exact q4 _ _))
        refine wpQuiet_nil ?_
        intro _ hw'
        obtain ⟨⟨dq, osq⟩, hw''⟩ := hw'
        subst hw''
        go_wp2
        go_ret
        exact ⟨rfl, below_then HBW.out (below_regrown wS dq osq)⟩
end Go.Proofs.Ytaaonhaighdlaaa
