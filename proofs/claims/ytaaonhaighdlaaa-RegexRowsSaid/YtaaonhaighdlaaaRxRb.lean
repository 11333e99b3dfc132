/- RegexRows, walked: the law answers true, whatever its texts. -/
import Derived.Test.YtaaonhaighdlaaaRxRa
import Derived.Test.YtaaonhaighdlaaaRxSa
import Derived.Lib.QuietBelow
namespace Go.Proofs.Ytaaonhaighdlaaa
open Go.RowKit Rx
set_option linter.unusedVariables false
set_option linter.unusedSimpArgs false

set_option maxHeartbeats 4000000 in
theorem rows_far (p q s : ByteArray) (w : World) (hpm : p.size ≤ 140737488351232) (hqm : q.size ≤ 140737488351232) (h : 50 < p.size + q.size ∨ (p.size + q.size ≤ 50 ∧ 30 < s.size)) : Calls Try.prog 3 #[.string p, .string q, .string s] w fun e w' => e = .returned (.bool true) ∧ Below w.heap.size w w' := by
  rcases h with h | ⟨hp, h⟩
  · have h1 : (50 : Int) < (p.size : Int) + q.size := by omega
    go_enter Try.func3, Try.ntmps3
    go_wp2_with (go_at_call 8; ((with_reducible refine (awake_calls _).mono ?_); rintro e wH ⟨rfl, hbH⟩))
    go_ret
    exact ⟨rfl, (show Chg (fun _ => False) w _ by (repeat (first | exact Chg.refl _ _ | with_reducible apply Chg.alloc | with_reducible apply Chg.drewN | with_reducible apply Chg.drew | with_reducible refine Chg.trans ?_ (Chg.of_below hbH) | with_reducible refine Chg.trans ?_ (Chg.of_below hbD) | with_reducible refine Chg.trans ?_ (Chg.of_below hbC) | with_reducible refine Chg.trans ?_ (Chg.of_below hbB) | with_reducible refine Chg.trans ?_ (Chg.of_below hbA) | with_reducible refine Chg.trans ?_ (Chg.of_below hbQ) | with_reducible refine Chg.trans ?_ (Chg.of_below hbP)))).below fun _ _ h => h⟩
  · have h0 : decide ((50 : Int) < (p.size : Int) + q.size) = false := decide_eq_false (by omega)
    have h1 : (30 : Int) < s.size := by omega
    go_enter Try.func3, Try.ntmps3
    go_wp2_with (go_at_call 8; ((with_reducible refine (awake_calls _).mono ?_); rintro e wH ⟨rfl, hbH⟩))
    go_ret
    exact ⟨rfl, (show Chg (fun _ => False) w _ by (repeat (first | exact Chg.refl _ _ | with_reducible apply Chg.alloc | with_reducible apply Chg.drewN | with_reducible apply Chg.drew | with_reducible refine Chg.trans ?_ (Chg.of_below hbH) | with_reducible refine Chg.trans ?_ (Chg.of_below hbD) | with_reducible refine Chg.trans ?_ (Chg.of_below hbC) | with_reducible refine Chg.trans ?_ (Chg.of_below hbB) | with_reducible refine Chg.trans ?_ (Chg.of_below hbA) | with_reducible refine Chg.trans ?_ (Chg.of_below hbQ) | with_reducible refine Chg.trans ?_ (Chg.of_below hbP)))).below fun _ _ h => h⟩

set_option maxHeartbeats 4000000 in
theorem rows_bad1 (p q s : ByteArray) (w : World) (hp : p.size + q.size ≤ 50) (hs : s.size ≤ 30) (er : Nat) (hx : Rx.parse (bys p) = .error er) : Calls Try.prog 3 #[.string p, .string q, .string s] w fun e w' => e = .returned (.bool true) ∧ Below w.heap.size w w' := by
  have h0 : decide ((50 : Int) < (p.size : Int) + q.size) = false := decide_eq_false (by omega)
  have h1 : decide ((30 : Int) < s.size) = false := decide_eq_false (by omega)
  have HP := Lib.hid hx
  clear hx
  go_enter Try.func3, Try.ntmps3
  go_wp2_with (first | (go_at_call 8; ((with_reducible refine (awake_calls _).mono ?_); rintro e wH ⟨rfl, hbH⟩)) | (go_at_call 9; (fail_if_success (have := hbP)); ((refine (Parse_bad p _ (HP.out) _).mono ?_); rintro e wP ⟨rfl, hneP, hbP⟩; have hzP := eqb_no hneP)))
  go_ret
  exact ⟨rfl, (show Chg (fun _ => False) w _ by (repeat (first | exact Chg.refl _ _ | with_reducible apply Chg.alloc | with_reducible apply Chg.drewN | with_reducible apply Chg.drew | with_reducible refine Chg.trans ?_ (Chg.of_below hbH) | with_reducible refine Chg.trans ?_ (Chg.of_below hbD) | with_reducible refine Chg.trans ?_ (Chg.of_below hbC) | with_reducible refine Chg.trans ?_ (Chg.of_below hbB) | with_reducible refine Chg.trans ?_ (Chg.of_below hbA) | with_reducible refine Chg.trans ?_ (Chg.of_below hbQ) | with_reducible refine Chg.trans ?_ (Chg.of_below hbP)))).below fun _ _ h => h⟩

set_option maxHeartbeats 4000000 in
theorem rows_bad2 (p q s : ByteArray) (w : World) (hp : p.size + q.size ≤ 50) (hs : s.size ≤ 30) (x : Rx) (hx : Rx.parse (bys p) = .ok x) (er : Nat) (hy : Rx.parse (bys q) = .error er) : Calls Try.prog 3 #[.string p, .string q, .string s] w fun e w' => e = .returned (.bool true) ∧ Below w.heap.size w w' := by
  have h0 : decide ((50 : Int) < (p.size : Int) + q.size) = false := decide_eq_false (by omega)
  have h1 : decide ((30 : Int) < s.size) = false := decide_eq_false (by omega)
  have HP := Lib.hid hx
  have HQ := Lib.hid hy
  clear hx hy
  go_enter Try.func3, Try.ntmps3
  go_wp2_with (first | (go_at_call 8; ((with_reducible refine (awake_calls _).mono ?_); rintro e wH ⟨rfl, hbH⟩)) | (go_at_call 9; (fail_if_success (have := hbP)); ((refine (Parse_ok p x (HP.out) _).mono ?_); rintro e wP ⟨vP, rfl, hvP, hbP⟩; have hlP := hbP.size; obtain ⟨gP, cP, rfl, -⟩ := id hvP.open; have HVP := Lib.hid hvP; clear hvP)) | (go_at_call 9; (fail_if_success (have := hbQ)); ((refine (Parse_bad q _ (HQ.out) _).mono ?_); rintro e wQ ⟨rfl, hneQ, hbQ⟩; have hzQ := eqb_no hneQ)))
  go_ret
  exact ⟨rfl, (show Chg (fun _ => False) w _ by (repeat (first | exact Chg.refl _ _ | with_reducible apply Chg.alloc | with_reducible apply Chg.drewN | with_reducible apply Chg.drew | with_reducible refine Chg.trans ?_ (Chg.of_below hbH) | with_reducible refine Chg.trans ?_ (Chg.of_below hbD) | with_reducible refine Chg.trans ?_ (Chg.of_below hbC) | with_reducible refine Chg.trans ?_ (Chg.of_below hbB) | with_reducible refine Chg.trans ?_ (Chg.of_below hbA) | with_reducible refine Chg.trans ?_ (Chg.of_below hbQ) | with_reducible refine Chg.trans ?_ (Chg.of_below hbP)))).below fun _ _ h => h⟩

theorem Parse_any (s : ByteArray) (w : World) : Calls Try.prog 9 #[.string s] w fun e w' => ∃ (A : Option Addr) (n c : Nat) (k : Nat), e = .returned (.tuple #[.agg #[.slice A n c], .int .i64 (k : Int)]) ∧ Below w.heap.size w w' := by
  cases h : Rx.parse (bys s) with
  | ok y =>
    exact (Parse_ok s y h w).mono fun e w' ⟨v, h1, h2, h3⟩ => by
      obtain ⟨g, c, rfl, -⟩ := id h2.open
      exact ⟨_, _, _, 0, h1, h3⟩
  | error er => exact (Parse_bad s er h w).mono fun e w' ⟨h1, _, h3⟩ => ⟨_, _, _, er, h1, h3⟩

set_option maxHeartbeats 4000000 in
theorem rows_deep1 (p q s : ByteArray) (w : World) (hp : p.size + q.size ≤ 50) (hs : s.size ≤ 30) (x y : Rx) (hx : Rx.parse (bys p) = .ok x) (hy : Rx.parse (bys q) = .ok y) (ha : Rx.parse (br (bys p)) = .error 9) : Calls Try.prog 3 #[.string p, .string q, .string s] w fun e w' => e = .returned (.bool true) ∧ Below w.heap.size w w' := by
  have h0 : decide ((50 : Int) < (p.size : Int) + q.size) = false := decide_eq_false (by omega)
  have h1 : decide ((30 : Int) < s.size) = false := decide_eq_false (by omega)
  have HP := Lib.hid hx
  have HQ := Lib.hid hy
  have HA := Lib.hid ha
  clear hx hy ha
  go_enter Try.func3, Try.ntmps3
  go_wp2_with (first | (go_at_call 8; ((with_reducible refine (awake_calls _).mono ?_); rintro e wH ⟨rfl, hbH⟩)) | (go_at_call 9; (fail_if_success (have := hbP)); ((refine (Parse_ok p x (HP.out) _).mono ?_); rintro e wP ⟨vP, rfl, hvP, hbP⟩; have hlP := hbP.size; obtain ⟨gP, cP, rfl, -⟩ := id hvP.open; have HVP := Lib.hid hvP; clear hvP)) | (go_at_call 9; (fail_if_success (have := hbQ)); ((refine (Parse_ok q y (HQ.out) _).mono ?_); rintro e wQ ⟨vQ, rfl, hvQ, hbQ⟩; have hlQ := hbQ.size; obtain ⟨gQ, cQ, rfl, -⟩ := id hvQ.open; have HVQ := Lib.hid hvQ; clear hvQ)) | (go_at_call 9; (fail_if_success (have := hbA)); ((refine (Parse_bad _ _ ((by rw [rows1]; exact HA.out : Rx.parse (bys (ByteArray.mk #[40] ++ p ++ ByteArray.mk #[41])) = .error 9)) _).mono ?_); rintro e wA ⟨rfl, hneA, hbA⟩; have hzA := eqb_no hneA)) | (go_at_call 9; (fail_if_success (have := hbB)); ((refine (Parse_any _ _).mono ?_); rintro e wB ⟨AB, nB, cB, kB, rfl, hbB⟩; have hlB := hbB.size)) | (go_at_call 9; (fail_if_success (have := hbC)); ((refine (Parse_any _ _).mono ?_); rintro e wC ⟨AC, nC, cC, kC, rfl, hbC⟩; have hlC := hbC.size)))
  all_goals
    go_ret
    exact ⟨rfl, (show Chg (fun _ => False) w _ by (repeat (first | exact Chg.refl _ _ | with_reducible apply Chg.alloc | with_reducible apply Chg.drewN | with_reducible apply Chg.drew | with_reducible refine Chg.trans ?_ (Chg.of_below hbH) | with_reducible refine Chg.trans ?_ (Chg.of_below hbD) | with_reducible refine Chg.trans ?_ (Chg.of_below hbC) | with_reducible refine Chg.trans ?_ (Chg.of_below hbB) | with_reducible refine Chg.trans ?_ (Chg.of_below hbA) | with_reducible refine Chg.trans ?_ (Chg.of_below hbQ) | with_reducible refine Chg.trans ?_ (Chg.of_below hbP)))).below fun _ _ h => h⟩

set_option maxHeartbeats 4000000 in
theorem rows_deep2 (p q s : ByteArray) (w : World) (hp : p.size + q.size ≤ 50) (hs : s.size ≤ 30) (x y : Rx) (hx : Rx.parse (bys p) = .ok x) (hy : Rx.parse (bys q) = .ok y) (X : Rx) (ha : Rx.parse (br (bys p)) = .ok X) (hb : Rx.parse (br (bys q)) = .error 9) : Calls Try.prog 3 #[.string p, .string q, .string s] w fun e w' => e = .returned (.bool true) ∧ Below w.heap.size w w' := by
  have h0 : decide ((50 : Int) < (p.size : Int) + q.size) = false := decide_eq_false (by omega)
  have h1 : decide ((30 : Int) < s.size) = false := decide_eq_false (by omega)
  have HP := Lib.hid hx
  have HQ := Lib.hid hy
  have HA := Lib.hid ha
  have HB := Lib.hid hb
  clear hx hy ha hb
  go_enter Try.func3, Try.ntmps3
  go_wp2_with (first | (go_at_call 8; ((with_reducible refine (awake_calls _).mono ?_); rintro e wH ⟨rfl, hbH⟩)) | (go_at_call 9; (fail_if_success (have := hbP)); ((refine (Parse_ok p x (HP.out) _).mono ?_); rintro e wP ⟨vP, rfl, hvP, hbP⟩; have hlP := hbP.size; obtain ⟨gP, cP, rfl, -⟩ := id hvP.open; have HVP := Lib.hid hvP; clear hvP)) | (go_at_call 9; (fail_if_success (have := hbQ)); ((refine (Parse_ok q y (HQ.out) _).mono ?_); rintro e wQ ⟨vQ, rfl, hvQ, hbQ⟩; have hlQ := hbQ.size; obtain ⟨gQ, cQ, rfl, -⟩ := id hvQ.open; have HVQ := Lib.hid hvQ; clear hvQ)) | (go_at_call 9; (fail_if_success (have := hbA)); ((refine (Parse_ok _ X (by rw [rows1]; exact HA.out) _).mono ?_); rintro e wA ⟨vA, rfl, hvA, hbA⟩; have hlA := hbA.size; obtain ⟨gA, cA, rfl, -⟩ := id hvA.open; have HVA := Lib.hid hvA; clear hvA)) | (go_at_call 9; (fail_if_success (have := hbB)); ((refine (Parse_bad _ _ ((by rw [rows1]; exact HB.out : Rx.parse (bys (ByteArray.mk #[40] ++ q ++ ByteArray.mk #[41])) = .error 9)) _).mono ?_); rintro e wB ⟨rfl, hneB, hbB⟩; have hzB := eqb_no hneB)) | (go_at_call 9; (fail_if_success (have := hbC)); ((refine (Parse_any _ _).mono ?_); rintro e wC ⟨AC, nC, cC, kC, rfl, hbC⟩; have hlC := hbC.size)))
  all_goals
    go_ret
    exact ⟨rfl, (show Chg (fun _ => False) w _ by (repeat (first | exact Chg.refl _ _ | with_reducible apply Chg.alloc | with_reducible apply Chg.drewN | with_reducible apply Chg.drew | with_reducible refine Chg.trans ?_ (Chg.of_below hbH) | with_reducible refine Chg.trans ?_ (Chg.of_below hbD) | with_reducible refine Chg.trans ?_ (Chg.of_below hbC) | with_reducible refine Chg.trans ?_ (Chg.of_below hbB) | with_reducible refine Chg.trans ?_ (Chg.of_below hbA) | with_reducible refine Chg.trans ?_ (Chg.of_below hbQ) | with_reducible refine Chg.trans ?_ (Chg.of_below hbP)))).below fun _ _ h => h⟩
end Go.Proofs.Ytaaonhaighdlaaa
