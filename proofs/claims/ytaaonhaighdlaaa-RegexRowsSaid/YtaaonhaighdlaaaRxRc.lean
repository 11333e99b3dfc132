/- RegexRows, walked: where both patterns may stand in brackets. -/
import Derived.Test.YtaaonhaighdlaaaRxRb
import Derived.Lib.QuietBelow
import Derived.BigQuiet
namespace Go.Proofs.Ytaaonhaighdlaaa
open Go.RowKit Go.Sort Rx
set_option linter.unusedVariables false
set_option linter.unusedSimpArgs false

theorem below_then {a b c : World} (h : Below a.heap.size a b) (k : Below b.heap.size b c) : Below a.heap.size a c :=
  h.trans ⟨k.os, k.tape, k.output, k.size, fun i hi => k.block i (Nat.lt_of_lt_of_le hi h.size)⟩

set_option maxRecDepth 1000000 in
set_option maxHeartbeats 8000000 in
theorem rows_fine (p q s : ByteArray) (w : World) (hp : p.size + q.size ≤ 50) (hs : s.size ≤ 30) (x y : Rx) (hx : Rx.parse (bys p) = .ok x) (hy : Rx.parse (bys q) = .ok y) (A B C D : Rx) (ha : Rx.parse (br (bys p)) = .ok A) (hb : Rx.parse (br (bys q)) = .ok B)
    (hc : Rx.parse (br (bys p) ++ br (bys q)) = .ok C) (hd : Rx.parse (br (bys p) ++ (124 :: br (bys q))) = .ok D) (hseq : mt C (bys s) = cut A B (bys s) (s.size + 1)) (hor : mt D (bys s) = (mt A (bys s) || mt B (bys s))) : Calls Try.prog 3 #[.string p, .string q, .string s] w fun e w' => e = .returned (.bool true) ∧ Below w.heap.size w w' := by
  have h0 : decide ((50 : Int) < (p.size : Int) + q.size) = false := decide_eq_false (by omega)
  have h1 : decide ((30 : Int) < s.size) = false := decide_eq_false (by omega)
  have HP := Lib.hid hx
  have HQ := Lib.hid hy
  have HA := Lib.hid ha
  have HB := Lib.hid hb
  have HC := Lib.hid hc
  have HD := Lib.hid hd
  have HSEQ := Lib.hid hseq
  have HOR := Lib.hid hor
  clear hx hy ha hb hc hd hseq hor
  go_enter Try.func3, Try.ntmps3
  go_wp2_with (first | (go_at_call 9; (fail_if_success (have := hbP)); ((refine (Parse_ok _ x (by exact HP.out) _).mono ?_); rintro e wP ⟨vP, rfl, hvP, hbP⟩; have hlP := hbP.size; obtain ⟨gP, cP, rfl, -⟩ := id hvP.open; have HVP := Lib.hid hvP; clear hvP)) | (go_at_call 9; (fail_if_success (have := hbQ)); ((refine (Parse_ok _ y (by exact HQ.out) _).mono ?_); rintro e wQ ⟨vQ, rfl, hvQ, hbQ⟩; have hlQ := hbQ.size; obtain ⟨gQ, cQ, rfl, -⟩ := id hvQ.open; have HVQ := Lib.hid hvQ; clear hvQ)) | (go_at_call 9; (fail_if_success (have := hbA)); ((refine (Parse_ok _ A (by rw [rows1]; exact HA.out) _).mono ?_); rintro e wA ⟨vA, rfl, hvA, hbA⟩; have hlA := hbA.size; obtain ⟨gA, cA, rfl, -⟩ := id hvA.open; have HVA := Lib.hid hvA; clear hvA)) | (go_at_call 9; (fail_if_success (have := hbB)); ((refine (Parse_ok _ B (by rw [rows1]; exact HB.out) _).mono ?_); rintro e wB ⟨vB, rfl, hvB, hbB⟩; have hlB := hbB.size; obtain ⟨gB, cB, rfl, -⟩ := id hvB.open; have HVB := Lib.hid hvB; clear hvB)) | (go_at_call 9; (fail_if_success (have := hbC)); ((refine (Parse_ok _ C (by rw [rows2]; exact HC.out) _).mono ?_); rintro e wC ⟨vC, rfl, hvC, hbC⟩; have hlC := hbC.size; obtain ⟨gC, cC, rfl, -⟩ := id hvC.open; have HVC := Lib.hid hvC; clear hvC)))
  obtain ⟨W0, hW0⟩ : ∃ W0, W0 = wC.alloc (.cells #[.slice (some ⟨gC, 0, none⟩) C.table.length cC] 25) := ⟨_, rfl⟩
  have hchW0 : Chg (fun _ => False) w W0 := by subst hW0; (repeat (first | exact Chg.refl _ _ | with_reducible apply Chg.alloc | with_reducible apply Chg.drewN | with_reducible apply Chg.drew | with_reducible refine Chg.trans ?_ (Chg.of_below hbL) | with_reducible refine Chg.trans ?_ (Chg.of_below hbH) | with_reducible refine Chg.trans ?_ (Chg.of_below hbD) | with_reducible refine Chg.trans ?_ (Chg.of_below hbC) | with_reducible refine Chg.trans ?_ (Chg.of_below hbB) | with_reducible refine Chg.trans ?_ (Chg.of_below hbA) | with_reducible refine Chg.trans ?_ (Chg.of_below hbQ) | with_reducible refine Chg.trans ?_ (Chg.of_below hbP)))
  have hchA : Chg (fun _ => False) (wA.alloc (.cells #[.slice (some ⟨gA, 0, none⟩) A.table.length cA] 25)) W0 := by subst hW0; (repeat (first | exact Chg.refl _ _ | with_reducible apply Chg.alloc | with_reducible apply Chg.drewN | with_reducible apply Chg.drew | with_reducible refine Chg.trans ?_ (Chg.of_below hbL) | with_reducible refine Chg.trans ?_ (Chg.of_below hbH) | with_reducible refine Chg.trans ?_ (Chg.of_below hbD) | with_reducible refine Chg.trans ?_ (Chg.of_below hbC) | with_reducible refine Chg.trans ?_ (Chg.of_below hbB) | with_reducible refine Chg.trans ?_ (Chg.of_below hbA) | with_reducible refine Chg.trans ?_ (Chg.of_below hbQ) | with_reducible refine Chg.trans ?_ (Chg.of_below hbP)))
  have hchB : Chg (fun _ => False) (wB.alloc (.cells #[.slice (some ⟨gB, 0, none⟩) B.table.length cB] 25)) W0 := by subst hW0; (repeat (first | exact Chg.refl _ _ | with_reducible apply Chg.alloc | with_reducible apply Chg.drewN | with_reducible apply Chg.drew | with_reducible refine Chg.trans ?_ (Chg.of_below hbL) | with_reducible refine Chg.trans ?_ (Chg.of_below hbH) | with_reducible refine Chg.trans ?_ (Chg.of_below hbD) | with_reducible refine Chg.trans ?_ (Chg.of_below hbC) | with_reducible refine Chg.trans ?_ (Chg.of_below hbB) | with_reducible refine Chg.trans ?_ (Chg.of_below hbA) | with_reducible refine Chg.trans ?_ (Chg.of_below hbQ) | with_reducible refine Chg.trans ?_ (Chg.of_below hbP)))
  have hchC : Chg (fun _ => False) (wC.alloc (.cells #[.slice (some ⟨gC, 0, none⟩) C.table.length cC] 25)) W0 := by subst hW0; (repeat (first | exact Chg.refl _ _ | with_reducible apply Chg.alloc | with_reducible apply Chg.drewN | with_reducible apply Chg.drew | with_reducible refine Chg.trans ?_ (Chg.of_below hbL) | with_reducible refine Chg.trans ?_ (Chg.of_below hbH) | with_reducible refine Chg.trans ?_ (Chg.of_below hbD) | with_reducible refine Chg.trans ?_ (Chg.of_below hbC) | with_reducible refine Chg.trans ?_ (Chg.of_below hbB) | with_reducible refine Chg.trans ?_ (Chg.of_below hbA) | with_reducible refine Chg.trans ?_ (Chg.of_below hbQ) | with_reducible refine Chg.trans ?_ (Chg.of_below hbP)))
  rw [← hW0]
  have HVA0 := Lib.hid (HVA.out.frame (w' := W0) (S' := fun _ => True) fun k hk _ => ⟨(hchA.block k (by simp; omega) id).trans (Below.heap_alloc _ _ _ hk), trivial⟩)
  have HVB0 := Lib.hid (HVB.out.frame (w' := W0) (S' := fun _ => True) fun k hk _ => ⟨(hchB.block k (by simp; omega) id).trans (Below.heap_alloc _ _ _ hk), trivial⟩)
  have HVC0 := Lib.hid (HVC.out.frame (w' := W0) (S' := fun _ => True) fun k hk _ => ⟨(hchC.block k (by simp; omega) id).trans (Below.heap_alloc _ _ _ hk), trivial⟩)
  have hxA := (hchA.blk (blk_new wA _) id)
  have hxB := (hchB.blk (blk_new wB _) id)
  have hxC := (hchC.blk (blk_new wC _) id)
  have HXA := Lib.hid hxA
  have HXB := Lib.hid hxB
  have HXC := Lib.hid hxC
  have HCW := Lib.hid hchW0
  clear hxA hxB hxC hchA hchB hchC hchW0 hbP hbQ hbA hbB hbC hlP hlQ hlA hlB hlC HVP HVQ HVA HVB HVC hW0
  go_loopg [17, 95] (s.size + 2) (fun k u17 u95 wr => ∃ i : Nat, u17 = .bool (cut A B (bys s) i) ∧ u95 = .int .i64 (i : Int) ∧ i + k = s.size + 2 ∧ i ≤ s.size + 1 ∧ Below W0.heap.size W0 wr)
  case atStart => exact ⟨0, rfl, rfl, by omega, by omega, Below.refl _ _⟩
  case round =>
    obtain ⟨i, rfl, rfl, hik, his, hbL⟩ := hrel
    obtain ⟨wo, rfl⟩ : ∃ m : World, m = wr := ⟨_, rfl⟩
    have kA : ∀ d os, (grow (redrawn wo d) os).cell? ⟨wA.heap.size, 0, none⟩ = some (.slice (some ⟨gA, 0, none⟩) A.table.length cA) := fun d os => cell_regrown (blk_cell ((Chg.of_below (M := fun _ => False) hbL).blk HXA.out id)) d os
    have kB : ∀ d os, (grow (redrawn wo d) os).cell? ⟨wB.heap.size, 0, none⟩ = some (.slice (some ⟨gB, 0, none⟩) B.table.length cB) := fun d os => cell_regrown (blk_cell ((Chg.of_below (M := fun _ => False) hbL).blk HXB.out id)) d os
    by_cases hi : i ≤ s.size
    · have hc1 : decide ((i : Int) < (s.size : Int) + 1) = true := decide_eq_true (by omega)
      have hc2 : ¬ ((s.size : Int) < i) := by omega
      have cMA : ∀ d os, Calls Try.prog 10 #[.agg #[.slice (some ⟨gA, 0, none⟩) A.table.length cA], .string (s.extract 0 i)] (grow (redrawn wo d) os) fun e w'' => e = .returned (.bool (mt A ((bys s).take i))) ∧ ∃ p : Regrown, w'' = grow (redrawn wo p.d) p.os := fun d os => by
        have := Calls.regrown_of (Match_ok A (by have := parse_sz HA.out; omega) _ (s.extract 0 i) (by rw [ByteArray.size_extract]; omega) _ ((HVA0.out.below hbL).below (below_regrown wo d os)))
        rw [bys_take] at this; exact this
      have cMB : ∀ d os, Calls Try.prog 10 #[.agg #[.slice (some ⟨gB, 0, none⟩) B.table.length cB], .string (s.extract i s.size)] (grow (redrawn wo d) os) fun e w'' => e = .returned (.bool (mt B ((bys s).drop i))) ∧ ∃ p : Regrown, w'' = grow (redrawn wo p.d) p.os := fun d os => by
        have := Calls.regrown_of (Match_ok B (by have := parse_sz HB.out; omega) _ (s.extract i s.size) (by rw [ByteArray.size_extract]; omega) _ ((HVB0.out.below hbL).below (below_regrown wo d os)))
        rw [bys_drop] at this; exact this
      have HCUT : Hid (cut A B (bys s) (i + 1) = (cut A B (bys s) i || (mt A ((bys s).take i) && mt B ((bys s).drop i)))) := Lib.hid rfl
      generalize hU : cut A B (bys s) i = U
      generalize hU' : cut A B (bys s) (i + 1) = U' at HCUT
      generalize mt A ((bys s).take i) = MA at *
      generalize mt B ((bys s).drop i) = MB at *
      rw [hU] at HCUT
      have hi1 : (0 : Int) ≤ (i : Int) := by omega
      have hi2 : (i : Int) ≤ (s.size : Int) := by omega
      go_wp2
      cases U with
      | true =>
        refine wp_region_quiet_below (by kernel_rfl) (by kernel_rfl) ?_
        repeat (go_big_quiet_step (first | with_reducible exact cMA _ _ | with_reducible exact cMB _ _))
        refine wpQuiet_nil ?_
        intro _ hw'
        obtain ⟨⟨dq, osq⟩, hw''⟩ := hw'
        subst hw''
        go_wp2
        go_roundg (gk - 1)
        case measure => omega
        case rel => exact ⟨i + 1, by rw [hU', HCUT.out]; rfl, by go_num, by omega, by omega, below_then hbL (below_regrown wo dq osq)⟩
      | false =>
        cases MA with
        | false =>
          refine wp_region_quiet_below (by kernel_rfl) (by kernel_rfl) ?_
          repeat (go_big_quiet_step (first | with_reducible exact cMA _ _ | with_reducible exact cMB _ _))
          refine wpQuiet_nil ?_
          intro _ hw'
          obtain ⟨⟨dq, osq⟩, hw''⟩ := hw'
          subst hw''
          go_wp2
          go_roundg (gk - 1)
          case measure => omega
          case rel => exact ⟨i + 1, by rw [hU', HCUT.out]; rfl, by go_num, by omega, by omega, below_then hbL (below_regrown wo dq osq)⟩
        | true =>
          cases MB with
          | false =>
            refine wp_region_quiet_below (by kernel_rfl) (by kernel_rfl) ?_
            repeat (go_big_quiet_step (first | with_reducible exact cMA _ _ | with_reducible exact cMB _ _))
            refine wpQuiet_nil ?_
            intro _ hw'
            obtain ⟨⟨dq, osq⟩, hw''⟩ := hw'
            subst hw''
            go_wp2
            go_roundg (gk - 1)
            case measure => omega
            case rel => exact ⟨i + 1, by rw [hU', HCUT.out]; rfl, by go_num, by omega, by omega, below_then hbL (below_regrown wo dq osq)⟩
          | true =>
            refine wp_region_quiet_below (by kernel_rfl) (by kernel_rfl) ?_
            repeat (go_big_quiet_step (first | with_reducible exact cMA _ _ | with_reducible exact cMB _ _))
            refine wpQuiet_nil ?_
            intro _ hw'
            obtain ⟨⟨dq, osq⟩, hw''⟩ := hw'
            subst hw''
            go_wp2
            go_roundg (gk - 1)
            case measure => omega
            case rel => exact ⟨i + 1, by rw [hU', HCUT.out]; rfl, by go_num, by omega, by omega, below_then hbL (below_regrown wo dq osq)⟩
    · have hc1 : decide ((i : Int) < (s.size : Int) + 1) = false := decide_eq_false (by omega)
      obtain rfl : i = s.size + 1 := by omega
      go_wp2_with (go_at_call 9; (fail_if_success (have := hbD)); ((refine (Parse_ok _ D (by rw [rows3]; exact HD.out) _).mono ?_); rintro e wD ⟨vD, rfl, hvD, hbD⟩; have hlD := hbD.size; obtain ⟨gD, cD, rfl, -⟩ := id hvD.open; have HVD := Lib.hid hvD; clear hvD))
      obtain ⟨W1, hW1⟩ : ∃ W1, W1 = wD.alloc (.cells #[.slice (some ⟨gD, 0, none⟩) D.table.length cD] 25) := ⟨_, rfl⟩
      have hbW : Below W0.heap.size W0 W1 := (show Chg (fun _ => False) W0 W1 by subst hW1; (repeat (first | exact Chg.refl _ _ | with_reducible apply Chg.alloc | with_reducible apply Chg.drewN | with_reducible apply Chg.drew | with_reducible refine Chg.trans ?_ (Chg.of_below hbL) | with_reducible refine Chg.trans ?_ (Chg.of_below hbH) | with_reducible refine Chg.trans ?_ (Chg.of_below hbD) | with_reducible refine Chg.trans ?_ (Chg.of_below hbC) | with_reducible refine Chg.trans ?_ (Chg.of_below hbB) | with_reducible refine Chg.trans ?_ (Chg.of_below hbA) | with_reducible refine Chg.trans ?_ (Chg.of_below hbQ) | with_reducible refine Chg.trans ?_ (Chg.of_below hbP)))).below fun _ _ h => h
      have hchD : Chg (fun _ => False) (wD.alloc (.cells #[.slice (some ⟨gD, 0, none⟩) D.table.length cD] 25)) W1 := by subst hW1; exact Chg.refl _ _
      have hRD : RegV W1 (fun _ => True) (.slice (some ⟨gD, 0, none⟩) D.table.length cD) D.table := HVD.out.frame (w' := W1) (S' := fun _ => True) fun k hk _ => ⟨(hchD.block k (by simp; omega) id).trans (Below.heap_alloc _ _ _ hk), trivial⟩
      have kA : ∀ d os, (grow (redrawn W1 d) os).cell? ⟨wA.heap.size, 0, none⟩ = some (.slice (some ⟨gA, 0, none⟩) A.table.length cA) := fun d os => cell_regrown (blk_cell ((Chg.of_below (M := fun _ => False) hbW).blk HXA.out id)) d os
      have kB : ∀ d os, (grow (redrawn W1 d) os).cell? ⟨wB.heap.size, 0, none⟩ = some (.slice (some ⟨gB, 0, none⟩) B.table.length cB) := fun d os => cell_regrown (blk_cell ((Chg.of_below (M := fun _ => False) hbW).blk HXB.out id)) d os
      have kC : ∀ d os, (grow (redrawn W1 d) os).cell? ⟨wC.heap.size, 0, none⟩ = some (.slice (some ⟨gC, 0, none⟩) C.table.length cC) := fun d os => cell_regrown (blk_cell ((Chg.of_below (M := fun _ => False) hbW).blk HXC.out id)) d os
      have kD : ∀ d os, (grow (redrawn W1 d) os).cell? ⟨wD.heap.size, 0, none⟩ = some (.slice (some ⟨gD, 0, none⟩) D.table.length cD) := fun d os => cell_regrown (blk_cell (hchD.blk (blk_new wD _) id)) d os
      rw [← hW1]
      have cMA : ∀ d os, Calls Try.prog 10 #[.agg #[.slice (some ⟨gA, 0, none⟩) A.table.length cA], .string s] (grow (redrawn W1 d) os) fun e w'' => e = .returned (.bool (mt A (bys s))) ∧ ∃ p : Regrown, w'' = grow (redrawn W1 p.d) p.os := fun d os => Calls.regrown_of (Match_ok A (by have := parse_sz HA.out; omega) _ s (by omega) _ ((HVA0.out.below hbW).below (below_regrown W1 d os)))
      have cMB : ∀ d os, Calls Try.prog 10 #[.agg #[.slice (some ⟨gB, 0, none⟩) B.table.length cB], .string s] (grow (redrawn W1 d) os) fun e w'' => e = .returned (.bool (mt B (bys s))) ∧ ∃ p : Regrown, w'' = grow (redrawn W1 p.d) p.os := fun d os => Calls.regrown_of (Match_ok B (by have := parse_sz HB.out; omega) _ s (by omega) _ ((HVB0.out.below hbW).below (below_regrown W1 d os)))
      have cMC : ∀ d os, Calls Try.prog 10 #[.agg #[.slice (some ⟨gC, 0, none⟩) C.table.length cC], .string s] (grow (redrawn W1 d) os) fun e w'' => e = .returned (.bool (mt C (bys s))) ∧ ∃ p : Regrown, w'' = grow (redrawn W1 p.d) p.os := fun d os => Calls.regrown_of (Match_ok C (by have := parse_sz HC.out; omega) _ s (by omega) _ ((HVC0.out.below hbW).below (below_regrown W1 d os)))
      have cMD : ∀ d os, Calls Try.prog 10 #[.agg #[.slice (some ⟨gD, 0, none⟩) D.table.length cD], .string s] (grow (redrawn W1 d) os) fun e w'' => e = .returned (.bool (mt D (bys s))) ∧ ∃ p : Regrown, w'' = grow (redrawn W1 p.d) p.os := fun d os => Calls.regrown_of (Match_ok D (by have := parse_sz HD.out; omega) _ s (by omega) _ (hRD.below (below_regrown W1 d os)))
      have cW : ∀ d os, Calls Try.prog 8 #[] (grow (redrawn W1 d) os) fun e w'' => e = .returned (.bool true) ∧ ∃ p : Regrown, w'' = grow (redrawn W1 p.d) p.os := fun d os => Calls.regrown_of (awake_calls _)
      have HBW := Lib.hid hbW
      clear hbW hchD hRD hW1 hbD hlD HVD hbL
      have hseq := HSEQ.out
      have hor := HOR.out
      generalize mt A (bys s) = MA at *
      generalize mt B (bys s) = MB at *
      generalize mt C (bys s) = MC at *
      generalize mt D (bys s) = MD at *
      generalize cut A B (bys s) (s.size + 1) = U at *
      subst hseq
      subst hor
      clear HSEQ HOR
      cases MC with
      | true =>
        cases MA with
        | true =>
          refine wp_region_quiet_below (by kernel_rfl) (by kernel_rfl) ?_
          repeat (go_big_quiet_step (first | with_reducible exact cMA _ _ | with_reducible exact cMB _ _ | with_reducible exact cMC _ _ | with_reducible exact cMD _ _ | with_reducible exact cW _ _))
          refine wpQuiet_nil ?_
          intro _ hw'
          obtain ⟨⟨dq, osq⟩, hw''⟩ := hw'
          subst hw''
          go_wp2
          go_ret
          exact ⟨rfl, (Chg.trans HCW.out ((Chg.of_below HBW.out).trans (Chg.of_below (below_regrown W1 dq osq)))).below fun _ _ h => h⟩
        | false =>
          cases MB with
          | true =>
            refine wp_region_quiet_below (by kernel_rfl) (by kernel_rfl) ?_
            repeat (go_big_quiet_step (first | with_reducible exact cMA _ _ | with_reducible exact cMB _ _ | with_reducible exact cMC _ _ | with_reducible exact cMD _ _ | with_reducible exact cW _ _))
            refine wpQuiet_nil ?_
            intro _ hw'
            obtain ⟨⟨dq, osq⟩, hw''⟩ := hw'
            subst hw''
            go_wp2
            go_ret
            exact ⟨rfl, (Chg.trans HCW.out ((Chg.of_below HBW.out).trans (Chg.of_below (below_regrown W1 dq osq)))).below fun _ _ h => h⟩
          | false =>
            refine wp_region_quiet_below (by kernel_rfl) (by kernel_rfl) ?_
            repeat (go_big_quiet_step (first | with_reducible exact cMA _ _ | with_reducible exact cMB _ _ | with_reducible exact cMC _ _ | with_reducible exact cMD _ _ | with_reducible exact cW _ _))
            refine wpQuiet_nil ?_
            intro _ hw'
            obtain ⟨⟨dq, osq⟩, hw''⟩ := hw'
            subst hw''
            go_wp2
            go_ret
            exact ⟨rfl, (Chg.trans HCW.out ((Chg.of_below HBW.out).trans (Chg.of_below (below_regrown W1 dq osq)))).below fun _ _ h => h⟩
      | false =>
        cases MA with
        | true =>
          refine wp_region_quiet_below (by kernel_rfl) (by kernel_rfl) ?_
          repeat (go_big_quiet_step (first | with_reducible exact cMA _ _ | with_reducible exact cMB _ _ | with_reducible exact cMC _ _ | with_reducible exact cMD _ _ | with_reducible exact cW _ _))
          refine wpQuiet_nil ?_
          intro _ hw'
          obtain ⟨⟨dq, osq⟩, hw''⟩ := hw'
          subst hw''
          go_wp2
          go_ret
          exact ⟨rfl, (Chg.trans HCW.out ((Chg.of_below HBW.out).trans (Chg.of_below (below_regrown W1 dq osq)))).below fun _ _ h => h⟩
        | false =>
          cases MB with
          | true =>
            refine wp_region_quiet_below (by kernel_rfl) (by kernel_rfl) ?_
            repeat (go_big_quiet_step (first | with_reducible exact cMA _ _ | with_reducible exact cMB _ _ | with_reducible exact cMC _ _ | with_reducible exact cMD _ _ | with_reducible exact cW _ _))
            refine wpQuiet_nil ?_
            intro _ hw'
            obtain ⟨⟨dq, osq⟩, hw''⟩ := hw'
            subst hw''
            go_wp2
            go_ret
            exact ⟨rfl, (Chg.trans HCW.out ((Chg.of_below HBW.out).trans (Chg.of_below (below_regrown W1 dq osq)))).below fun _ _ h => h⟩
          | false =>
            refine wp_region_quiet_below (by kernel_rfl) (by kernel_rfl) ?_
            repeat (go_big_quiet_step (first | with_reducible exact cMA _ _ | with_reducible exact cMB _ _ | with_reducible exact cMC _ _ | with_reducible exact cMD _ _ | with_reducible exact cW _ _))
            refine wpQuiet_nil ?_
            intro _ hw'
            obtain ⟨⟨dq, osq⟩, hw''⟩ := hw'
            subst hw''
            go_wp2
            go_ret
            exact ⟨rfl, (Chg.trans HCW.out ((Chg.of_below HBW.out).trans (Chg.of_below (below_regrown W1 dq osq)))).below fun _ _ h => h⟩
end Go.Proofs.Ytaaonhaighdlaaa
