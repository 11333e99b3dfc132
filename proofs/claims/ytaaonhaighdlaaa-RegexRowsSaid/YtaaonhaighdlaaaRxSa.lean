/- RegexStars, walked: the law answers true, whatever its texts. -/
import Derived.Test.YtaaonhaighdlaaaRxZ
namespace Go.Proofs.Ytaaonhaighdlaaa
open Go.RowKit Rx
set_option linter.unusedVariables false
set_option linter.unusedSimpArgs false

theorem Parse_bad (s : ByteArray) (er : Nat) (h : Rx.parse (bys s) = .error er) (w : World) :
    Calls Try.prog 9 #[.string s] w fun e w' => e = .returned (.tuple #[.agg #[.slice none 0 0], .int .i64 er]) ∧ er ≠ 0 ∧ Below w.heap.size w w' :=
  (Parse_calls s w).mono fun e w' hp => by
    unfold ParseRes at hp
    rw [h] at hp
    exact ⟨hp.2.1, hp.2.2, hp.1⟩

set_option maxHeartbeats 2000000 in
theorem is_ok (q s : ByteArray) (y : Rx) (hq : Rx.parse (bys q) = .ok y) (hs : s.size ≤ 20) (b : Nat) (w : World) (hc : w.cell? ⟨b, 0, none⟩ = some (.string s)) : Calls Try.prog 11 #[.string q, .pointer (some ⟨b, 0, none⟩)] w fun e w' => e = .returned (.tuple #[.bool (mt y (bys s)), .bool true]) ∧ Below w.heap.size w w' := by
  have hsz := parse_sz hq
  have hsz2 : sz y ≤ 90000 := by omega
  have hs2 : s.size ≤ 1000000000 := by omega
  have HQ := Lib.hid hq
  have HC := Lib.hid hc
  have zb := World.block_lt_of_cell? _ _ hc
  clear hq hsz
  go_enter Try.func11, Try.ntmps11
  go_wp2_with (first | (go_at_call 9; ((with_reducible refine (Parse_ok q y HQ.out _).mono ?_); rintro e wA ⟨vA, rfl, hvA, hbA⟩; have hlA := hbA.size; obtain ⟨gA, cA, rfl, -⟩ := id hvA.open; have HVA := Lib.hid hvA; have cs := (hbA.cell (p := ⟨b, 0, none⟩) zb).trans HC.out; have zA := World.block_lt_of_cell? _ _ cs; clear hvA)) | (go_at_call 10; ((with_reducible refine (Match_ok y hsz2 _ s hs2 _ (HVA.out.frame fun k hk _ => ⟨(show Chg (fun _ => False) wA _ by (repeat (first | exact Chg.refl _ _ | with_reducible apply Chg.alloc | with_reducible apply Chg.drewN | with_reducible apply Chg.drew | with_reducible refine Chg.trans ?_ (Chg.of_below hbK) | with_reducible refine Chg.trans ?_ (Chg.of_below hbJ) | with_reducible refine Chg.trans ?_ (Chg.of_below hbI) | with_reducible refine Chg.trans ?_ (Chg.of_below hbH) | with_reducible refine Chg.trans ?_ (Chg.of_below hbG) | with_reducible refine Chg.trans ?_ (Chg.of_below hbF) | with_reducible refine Chg.trans ?_ (Chg.of_below hbE) | with_reducible refine Chg.trans ?_ (Chg.of_below hbD) | with_reducible refine Chg.trans ?_ (Chg.of_below hbC) | with_reducible refine Chg.trans ?_ (Chg.of_below hbB) | with_reducible refine Chg.trans ?_ (Chg.of_below hbA)))).block k hk id, trivial⟩)).mono ?_); rintro e wB ⟨rfl, hbB⟩)))
  refine bodyPost_ret (v := .tuple #[.bool (mt y (bys s)), .bool true]) (by simp [results, Try.results11, go_sem]) rfl ⟨rfl, (show Chg (fun _ => False) w _ by (repeat (first | exact Chg.refl _ _ | with_reducible apply Chg.alloc | with_reducible apply Chg.drewN | with_reducible apply Chg.drew | with_reducible refine Chg.trans ?_ (Chg.of_below hbK) | with_reducible refine Chg.trans ?_ (Chg.of_below hbJ) | with_reducible refine Chg.trans ?_ (Chg.of_below hbI) | with_reducible refine Chg.trans ?_ (Chg.of_below hbH) | with_reducible refine Chg.trans ?_ (Chg.of_below hbG) | with_reducible refine Chg.trans ?_ (Chg.of_below hbF) | with_reducible refine Chg.trans ?_ (Chg.of_below hbE) | with_reducible refine Chg.trans ?_ (Chg.of_below hbD) | with_reducible refine Chg.trans ?_ (Chg.of_below hbC) | with_reducible refine Chg.trans ?_ (Chg.of_below hbB) | with_reducible refine Chg.trans ?_ (Chg.of_below hbA)))).below fun _ _ h => h⟩

set_option maxHeartbeats 2000000 in
theorem is_err (q s : ByteArray) (er : Nat) (hq : Rx.parse (bys q) = .error er) (b : Nat) (w : World) (hc : w.cell? ⟨b, 0, none⟩ = some (.string s)) : Calls Try.prog 11 #[.string q, .pointer (some ⟨b, 0, none⟩)] w fun e w' => e = .returned (.tuple #[.bool false, .bool false]) ∧ Below w.heap.size w w' := by
  have HQ := Lib.hid hq
  have HC := Lib.hid hc
  have zb := World.block_lt_of_cell? _ _ hc
  clear hq
  go_enter Try.func11, Try.ntmps11
  go_wp2_with (first | (go_at_call 9; ((with_reducible refine (Parse_bad q er HQ.out _).mono ?_); rintro e wA ⟨rfl, hne, hbA⟩; have hlA := hbA.size; have hz : ((er : Int) == 0) = false := eqb_no hne; have cs := (hbA.cell (p := ⟨b, 0, none⟩) zb).trans HC.out; have zA := World.block_lt_of_cell? _ _ cs)) | (go_at_call 10; ((with_reducible refine (Match_zero s _).mono ?_); rintro e wB ⟨rfl, hbB⟩)))
  refine bodyPost_ret (v := .tuple #[.bool false, .bool false]) (by simp [results, Try.results11, go_sem]) rfl ⟨rfl, (show Chg (fun _ => False) w _ by (repeat (first | exact Chg.refl _ _ | with_reducible apply Chg.alloc | with_reducible apply Chg.drewN | with_reducible apply Chg.drew | with_reducible refine Chg.trans ?_ (Chg.of_below hbK) | with_reducible refine Chg.trans ?_ (Chg.of_below hbJ) | with_reducible refine Chg.trans ?_ (Chg.of_below hbI) | with_reducible refine Chg.trans ?_ (Chg.of_below hbH) | with_reducible refine Chg.trans ?_ (Chg.of_below hbG) | with_reducible refine Chg.trans ?_ (Chg.of_below hbF) | with_reducible refine Chg.trans ?_ (Chg.of_below hbE) | with_reducible refine Chg.trans ?_ (Chg.of_below hbD) | with_reducible refine Chg.trans ?_ (Chg.of_below hbC) | with_reducible refine Chg.trans ?_ (Chg.of_below hbB) | with_reducible refine Chg.trans ?_ (Chg.of_below hbA)))).below fun _ _ h => h⟩
theorem is_any (q s : ByteArray) (hs : s.size ≤ 20) (b : Nat) (w : World) (hc : w.cell? ⟨b, 0, none⟩ = some (.string s)) : Calls Try.prog 11 #[.string q, .pointer (some ⟨b, 0, none⟩)] w fun e w' => ∃ x y : Bool, e = .returned (.tuple #[.bool x, .bool y]) ∧ Below w.heap.size w w' := by
  cases h : Rx.parse (bys q) with
  | ok y => exact (is_ok q s y h hs b w hc).mono fun e w' ⟨h1, h2⟩ => ⟨_, _, h1, h2⟩
  | error er => exact (is_err q s er h b w hc).mono fun e w' ⟨h1, h2⟩ => ⟨_, _, h1, h2⟩
end Go.Proofs.Ytaaonhaighdlaaa
