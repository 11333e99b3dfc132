/- RegexPlain, walked. -/
import Derived.Test.YtaaonhaighdlaaaRxPa
import Derived.Test.YtaaonhaighdlaaaShelf
import Derived.Test.YtaaonhaighdlaaaRxRa
import Derived.Lib.QuietBelow
import Derived.BigQuiet
namespace Go.Proofs.Ytaaonhaighdlaaa
open Go.RowKit Go.Sort Rx
set_option linter.unusedVariables false
set_option linter.unusedSimpArgs false

theorem extract_one (s : ByteArray) (i : Nat) (h : i < s.size) : ∃ c : UInt8, s.extract i (i + 1) = ⟨#[c]⟩ ∧ (bys s)[i]? = some c.toNat := by
  refine ⟨s[i], ?_, bys_get s i h⟩
  obtain ⟨⟨l⟩⟩ := s
  have hl : i < l.length := h
  apply ByteArray.ext
  rw [ByteArray.data_extract]
  apply Array.ext'
  rw [Array.toList_extract]
  simp only [List.extract]
  have : (⟨⟨l⟩⟩ : ByteArray)[i] = l[i] := rfl
  rw [this, Nat.add_sub_cancel_left, List.drop_eq_getElem_cons hl]
  rfl
theorem take_more {u : List Nat} {i c : Nat} (h : u[i]? = some c) : u.take (i + 1) = u.take i ++ [c] := by
  rw [List.take_add_one, h]; rfl
theorem bys_more (P : ByteArray) (c : UInt8) (u : List Nat) (i : Nat) (h : bys P = esc (u.take i)) (hc : u[i]? = some c.toNat) : bys (P ++ (⟨#[92]⟩ ++ ⟨#[c]⟩)) = esc (u.take (i + 1)) := by
  rw [take_more hc, esc_app, bys_append, bys_append, h]; rfl
theorem str_eq (s t : ByteArray) : decide (s = t) = (s.toList == t.toList) := by
  by_cases h : s = t
  · rw [decide_eq_true h, h]; simp
  · rw [decide_eq_false h]
    exact (beq_eq_false_iff_ne.2 (fun e => h (by
      obtain ⟨⟨l⟩⟩ := s
      obtain ⟨⟨m⟩⟩ := t
      simp only [ByteArray.toList_eq] at e
      rw [e]))).symm
open Classical in
noncomputable def allPlain (u : List Nat) : Bool := decide (∀ b, b ∈ u → Plain b)
open Classical in
theorem allPlain_parse {u : List Nat} (h : allPlain u = true) : ∀ b, b ∈ u → Plain b := of_decide_eq_true h
theorem allPlain_nil : allPlain [] = true := by unfold allPlain; simp
open Classical in
theorem allPlain_more {u : List Nat} {i : Nat} {c : UInt8} (hc : u[i]? = some c.toNat) : allPlain (u.take (i + 1)) = (allPlain (u.take i) && !decide (0 ≤ Lib.indexByte specials c)) := by
  rw [special_plain, Bool.not_not, take_more hc]
  unfold allPlain
  rw [← Bool.decide_and]
  congr 1
  apply propext
  simp only [List.mem_append, List.mem_singleton]
  exact ⟨fun h => ⟨fun b hb => h b (.inl hb), h _ (.inr rfl)⟩, fun ⟨h1, h2⟩ b hb => hb.elim (h1 b) (fun e => e ▸ h2)⟩

set_option maxRecDepth 1000000 in
set_option maxHeartbeats 8000000 in
theorem plain_fine (s t : ByteArray) (w : World) (hs : s.size ≤ 32) (ht : t.size ≤ 64) : Calls Try.prog 6 #[.string s, .string t] w fun e w' => e = .returned (.bool true) ∧ Below w.heap.size w w' := by
  have h0 : decide ((32 : Int) < (s.size : Int)) = false := decide_eq_false (by omega)
  have h1 : decide ((64 : Int) < (t.size : Int)) = false := decide_eq_false (by omega)
  go_enter Try.func6, Try.ntmps6
  go_wp2
  go_loopg [5, 6, 23] (s.size + 1) (fun k u5 u6 u23 wr => ∃ (i : Nat) (P : ByteArray), u5 = .string P ∧ u6 = .bool (allPlain ((bys s).take i)) ∧ u23 = .int .i64 (i : Int) ∧ i + k = s.size + 1 ∧ i ≤ s.size ∧ P.size ≤ 2 * i ∧ Hid (bys P = esc ((bys s).take i)) ∧ wr = w)
  case atStart => exact ⟨0, ⟨#[]⟩, rfl, by rw [List.take_zero, allPlain_nil], rfl, by omega, by omega, Nat.le_refl _, Lib.hid rfl, rfl⟩
  case round =>
    obtain ⟨i, P, rfl, rfl, rfl, hik, his, hP, HP, rfl⟩ := hrel
    by_cases hi : i < s.size
    · have hc1 : decide ((i : Int) < (s.size : Int)) = true := decide_eq_true (by omega)
      obtain ⟨c, hx, hc⟩ := extract_one s i hi
      have HAP := Lib.hid (allPlain_more hc)
      have HB := Lib.hid (bys_more P c (bys s) i HP.out hc)
      have cS : ∀ w, Calls Try.prog 13 #[.string ⟨#[42, 43, 63, 124, 40, 41, 91, 93, 123, 125, 94, 36, 46, 92]⟩, .string ⟨#[c]⟩] w fun e w' => e = .returned (.bool (decide (0 ≤ Lib.indexByte specials c))) ∧ w' = w := fun w => strings_Contains_one _ c w
      clear hc
      generalize hU : allPlain ((bys s).take i) = U at *
      generalize hU' : allPlain ((bys s).take (i + 1)) = U' at *
      generalize decide (0 ≤ Lib.indexByte specials c) = SC at *
      have hi1 : (0 : Int) ≤ (i : Int) := by omega
      have hi2 : (i : Int) + 1 ≤ (s.size : Int) := by omega
      have hi3 : (P.size : Int) ≤ 64 := by omega
      cases U with
      | true =>
        cases SC with
        | true =>
          go_wp2_with (go_at_call 13; refine (cS _).mono ?_; rintro e w' ⟨rfl, rfl⟩)
          go_roundg (gk - 1)
          case measure => omega
          case rel => exact ⟨i + 1, P ++ (⟨#[92]⟩ ++ ⟨#[c]⟩), rfl, by rw [hU', HAP.out]; rfl, by go_num, by omega, by omega, by simp only [ByteArray.size_append]; have : (⟨#[92]⟩ : ByteArray).size = 1 := rfl; have : (⟨#[c]⟩ : ByteArray).size = 1 := rfl; omega, HB, rfl⟩
        | false =>
          go_wp2_with (go_at_call 13; refine (cS _).mono ?_; rintro e w' ⟨rfl, rfl⟩)
          go_roundg (gk - 1)
          case measure => omega
          case rel => exact ⟨i + 1, P ++ (⟨#[92]⟩ ++ ⟨#[c]⟩), rfl, by rw [hU', HAP.out]; rfl, by go_num, by omega, by omega, by simp only [ByteArray.size_append]; have : (⟨#[92]⟩ : ByteArray).size = 1 := rfl; have : (⟨#[c]⟩ : ByteArray).size = 1 := rfl; omega, HB, rfl⟩
      | false =>
        go_wp2
        go_roundg (gk - 1)
        case measure => omega
        case rel => exact ⟨i + 1, P ++ (⟨#[92]⟩ ++ ⟨#[c]⟩), rfl, by rw [hU', HAP.out]; rfl, by go_num, by omega, by omega, by simp only [ByteArray.size_append]; have : (⟨#[92]⟩ : ByteArray).size = 1 := rfl; have : (⟨#[c]⟩ : ByteArray).size = 1 := rfl; omega, HB, rfl⟩
    · have hc1 : decide ((i : Int) < (s.size : Int)) = false := decide_eq_false (by omega)
      obtain rfl : i = s.size := by omega
      have HP2 : Hid (bys P = esc (bys s)) := Lib.hid (by have := HP.out; rwa [List.take_of_length_le (by rw [bys_len]; exact Nat.le_refl _)] at this)
      have hall : (bys s).take s.size = bys s := List.take_of_length_le (by rw [bys_len]; exact Nat.le_refl _)
      rw [hall]
      clear hall HP
      obtain ⟨X, hX⟩ : ∃ X : Rx, X = .either [.row (lits (bys s))] := ⟨_, rfl⟩
      have HPA := Lib.hid (show Rx.parse (bys P) = .ok X by rw [HP2.out, hX]; exact esc_parse _ (by rw [bys_len]; omega))
      have cMs : ∀ w1 g c, RegV w1 (fun _ => True) (.slice (some ⟨g, 0, none⟩) X.table.length c) X.table → Calls Try.prog 10 #[.agg #[.slice (some ⟨g, 0, none⟩) X.table.length c], .string s] w1 fun e w' => e = .returned (.bool true) ∧ Below w1.heap.size w1 w' := fun w1 g c hv => by
        have := Match_ok X (by have := parse_sz HPA.out; omega) _ s (by omega) w1 hv
        rw [hX, mt_lits, decide_eq_true rfl] at this
        rw [hX]; exact this
      obtain ⟨E, hE⟩ : ∃ E : Bool, (s.toList == t.toList) = E := ⟨_, rfl⟩
      have hEs : decide (s = t) = E := by rw [← hE]; exact str_eq s t
      have cMt : ∀ w1 g c, RegV w1 (fun _ => True) (.slice (some ⟨g, 0, none⟩) X.table.length c) X.table → Calls Try.prog 10 #[.agg #[.slice (some ⟨g, 0, none⟩) X.table.length c], .string t] w1 fun e w' => e = .returned (.bool E) ∧ Below w1.heap.size w1 w' := fun w1 g c hv => by
        have := Match_ok X (by have := parse_sz HPA.out; omega) _ t (by omega) w1 hv
        rw [hX, mt_lits, bys_eq] at this
        have e : decide (t = s) = decide (s = t) := by by_cases h : s = t <;> simp [h, eq_comm]
        rw [e, hEs] at this
        rw [hX]; exact this
      have HPL : Hid (allPlain (bys s) = true → Rx.parse (bys s) = .ok X) := Lib.hid (fun h => by rw [hX]; exact plain_parse _ (by rw [bys_len]; omega) (allPlain_parse h))
      have HSM := Lib.hid cMs
      have HTM := Lib.hid cMt
      clear cMs cMt hX hEs
      generalize allPlain (bys s) = PL at *
      cases PL with
      | false =>
        cases E with
        | false =>
          go_wp2_with (first | (go_at_call 9; (fail_if_success (have := hbP)); ((refine (Parse_ok _ X (by exact HPA.out) _).mono ?_); rintro e wP ⟨vP, rfl, hvP, hbP⟩; have hlP := hbP.size; obtain ⟨gP, cP, rfl, -⟩ := id hvP.open; have HV1 := Lib.hid (hvP.below (((Chg.refl (fun _ => False) wP).alloc (.cells #[.slice (some ⟨gP, 0, none⟩) X.table.length cP] 25)).below (fun _ _ h => h))); clear hvP)) | (go_at_call 10; (fail_if_success (have := hbM)); ((with_reducible refine (HSM.out _ _ _ HV1.out).mono ?_); rintro e wM ⟨rfl, hbM⟩; have hlM := hbM.size; have hxM : wM.cell? ⟨wP.heap.size, 0, none⟩ = some (.slice (some ⟨gP, 0, none⟩) X.table.length cP) := blk_cell ((Chg.of_below (M := fun _ => False) hbM).blk (blk_new wP _) id); have HV2 := Lib.hid (HV1.out.below hbM))) | (go_at_call 10; (fail_if_success (have := hbT)); ((with_reducible refine (HTM.out _ _ _ HV2.out).mono ?_); rintro e wT ⟨rfl, hbT⟩; have hlT := hbT.size)) | (go_at_call 8; ((refine (awake_calls _).mono ?_); rintro e wW ⟨rfl, hbW⟩)))
          go_ret
          exact ⟨rfl, (show Chg (fun _ => False) wr wW by (repeat (first | exact Chg.refl _ _ | with_reducible apply Chg.alloc | with_reducible apply Chg.drewN | with_reducible apply Chg.drew | with_reducible refine Chg.trans ?_ (Chg.of_below hbQ) | with_reducible refine Chg.trans ?_ (Chg.of_below hbW) | with_reducible refine Chg.trans ?_ (Chg.of_below hbT) | with_reducible refine Chg.trans ?_ (Chg.of_below hbM) | with_reducible refine Chg.trans ?_ (Chg.of_below hbP)))).below fun _ _ h => h⟩
        | true =>
          go_wp2_with (first | (go_at_call 9; (fail_if_success (have := hbP)); ((refine (Parse_ok _ X (by exact HPA.out) _).mono ?_); rintro e wP ⟨vP, rfl, hvP, hbP⟩; have hlP := hbP.size; obtain ⟨gP, cP, rfl, -⟩ := id hvP.open; have HV1 := Lib.hid (hvP.below (((Chg.refl (fun _ => False) wP).alloc (.cells #[.slice (some ⟨gP, 0, none⟩) X.table.length cP] 25)).below (fun _ _ h => h))); clear hvP)) | (go_at_call 10; (fail_if_success (have := hbM)); ((with_reducible refine (HSM.out _ _ _ HV1.out).mono ?_); rintro e wM ⟨rfl, hbM⟩; have hlM := hbM.size; have hxM : wM.cell? ⟨wP.heap.size, 0, none⟩ = some (.slice (some ⟨gP, 0, none⟩) X.table.length cP) := blk_cell ((Chg.of_below (M := fun _ => False) hbM).blk (blk_new wP _) id); have HV2 := Lib.hid (HV1.out.below hbM))) | (go_at_call 10; (fail_if_success (have := hbT)); ((with_reducible refine (HTM.out _ _ _ HV2.out).mono ?_); rintro e wT ⟨rfl, hbT⟩; have hlT := hbT.size)) | (go_at_call 8; ((refine (awake_calls _).mono ?_); rintro e wW ⟨rfl, hbW⟩)))
          go_ret
          exact ⟨rfl, (show Chg (fun _ => False) wr wW by (repeat (first | exact Chg.refl _ _ | with_reducible apply Chg.alloc | with_reducible apply Chg.drewN | with_reducible apply Chg.drew | with_reducible refine Chg.trans ?_ (Chg.of_below hbQ) | with_reducible refine Chg.trans ?_ (Chg.of_below hbW) | with_reducible refine Chg.trans ?_ (Chg.of_below hbT) | with_reducible refine Chg.trans ?_ (Chg.of_below hbM) | with_reducible refine Chg.trans ?_ (Chg.of_below hbP)))).below fun _ _ h => h⟩
      | true =>
        have HPQ := Lib.hid (HPL.out rfl)
        clear HPL
        cases E with
        | false =>
          go_wp2_with (first | (go_at_call 9; (fail_if_success (have := hbP)); ((refine (Parse_ok _ X (by exact HPA.out) _).mono ?_); rintro e wP ⟨vP, rfl, hvP, hbP⟩; have hlP := hbP.size; obtain ⟨gP, cP, rfl, -⟩ := id hvP.open; have HV1 := Lib.hid (hvP.below (((Chg.refl (fun _ => False) wP).alloc (.cells #[.slice (some ⟨gP, 0, none⟩) X.table.length cP] 25)).below (fun _ _ h => h))); clear hvP)) | (go_at_call 10; (fail_if_success (have := hbM)); ((with_reducible refine (HSM.out _ _ _ HV1.out).mono ?_); rintro e wM ⟨rfl, hbM⟩; have hlM := hbM.size; have hxM : wM.cell? ⟨wP.heap.size, 0, none⟩ = some (.slice (some ⟨gP, 0, none⟩) X.table.length cP) := blk_cell ((Chg.of_below (M := fun _ => False) hbM).blk (blk_new wP _) id); have HV2 := Lib.hid (HV1.out.below hbM))) | (go_at_call 10; (fail_if_success (have := hbT)); ((with_reducible refine (HTM.out _ _ _ HV2.out).mono ?_); rintro e wT ⟨rfl, hbT⟩; have hlT := hbT.size)) | (go_at_call 9; (fail_if_success (have := hbQ)); ((refine (Parse_ok _ X (by exact HPQ.out) _).mono ?_); rintro e wQ ⟨vQ, rfl, hvQ, hbQ⟩; have hlQ := hbQ.size; obtain ⟨gQ, cQ, rfl, -⟩ := id hvQ.open; have HVQ := Lib.hid (hvQ.below (((Chg.refl (fun _ => False) wQ).alloc (.cells #[.slice (some ⟨gQ, 0, none⟩) X.table.length cQ] 25)).below (fun _ _ h => h))); clear hvQ)) | (go_at_call 8; ((refine (awake_calls _).mono ?_); rintro e wW ⟨rfl, hbW⟩; have hlW := hbW.size; have hxW : wW.cell? ⟨wQ.heap.size, 0, none⟩ = some (.slice (some ⟨gQ, 0, none⟩) X.table.length cQ) := blk_cell ((Chg.of_below (M := fun _ => False) hbW).blk (blk_new wQ _) id); have HVW := Lib.hid (HVQ.out.below hbW))) | (go_at_call 10; (fail_if_success (have := hbU)); ((with_reducible refine (HTM.out _ _ _ HVW.out).mono ?_); rintro e wU ⟨rfl, hbU⟩; have hlU := hbU.size; have hxU : wU.cell? ⟨wQ.heap.size, 0, none⟩ = some (.slice (some ⟨gQ, 0, none⟩) X.table.length cQ) := (Chg.of_below (M := fun _ => False) hbU).cell hxW id; have HVU := Lib.hid (HVW.out.below hbU))) | (go_at_call 10; ((with_reducible refine (HSM.out _ _ _ HVU.out).mono ?_); rintro e wV ⟨rfl, hbV⟩)))
          go_ret
          exact ⟨rfl, (show Chg (fun _ => False) wr wV by (repeat (first | exact Chg.refl _ _ | with_reducible apply Chg.alloc | with_reducible apply Chg.drewN | with_reducible apply Chg.drew | with_reducible refine Chg.trans ?_ (Chg.of_below hbV) | with_reducible refine Chg.trans ?_ (Chg.of_below hbU) | with_reducible refine Chg.trans ?_ (Chg.of_below hbW) | with_reducible refine Chg.trans ?_ (Chg.of_below hbQ) | with_reducible refine Chg.trans ?_ (Chg.of_below hbT) | with_reducible refine Chg.trans ?_ (Chg.of_below hbM) | with_reducible refine Chg.trans ?_ (Chg.of_below hbP) ))).below fun _ _ h => h⟩
        | true =>
          go_wp2_with (first | (go_at_call 9; (fail_if_success (have := hbP)); ((refine (Parse_ok _ X (by exact HPA.out) _).mono ?_); rintro e wP ⟨vP, rfl, hvP, hbP⟩; have hlP := hbP.size; obtain ⟨gP, cP, rfl, -⟩ := id hvP.open; have HV1 := Lib.hid (hvP.below (((Chg.refl (fun _ => False) wP).alloc (.cells #[.slice (some ⟨gP, 0, none⟩) X.table.length cP] 25)).below (fun _ _ h => h))); clear hvP)) | (go_at_call 10; (fail_if_success (have := hbM)); ((with_reducible refine (HSM.out _ _ _ HV1.out).mono ?_); rintro e wM ⟨rfl, hbM⟩; have hlM := hbM.size; have hxM : wM.cell? ⟨wP.heap.size, 0, none⟩ = some (.slice (some ⟨gP, 0, none⟩) X.table.length cP) := blk_cell ((Chg.of_below (M := fun _ => False) hbM).blk (blk_new wP _) id); have HV2 := Lib.hid (HV1.out.below hbM))) | (go_at_call 10; (fail_if_success (have := hbT)); ((with_reducible refine (HTM.out _ _ _ HV2.out).mono ?_); rintro e wT ⟨rfl, hbT⟩; have hlT := hbT.size)) | (go_at_call 9; (fail_if_success (have := hbQ)); ((refine (Parse_ok _ X (by exact HPQ.out) _).mono ?_); rintro e wQ ⟨vQ, rfl, hvQ, hbQ⟩; have hlQ := hbQ.size; obtain ⟨gQ, cQ, rfl, -⟩ := id hvQ.open; have HVQ := Lib.hid (hvQ.below (((Chg.refl (fun _ => False) wQ).alloc (.cells #[.slice (some ⟨gQ, 0, none⟩) X.table.length cQ] 25)).below (fun _ _ h => h))); clear hvQ)) | (go_at_call 8; ((refine (awake_calls _).mono ?_); rintro e wW ⟨rfl, hbW⟩; have hlW := hbW.size; have hxW : wW.cell? ⟨wQ.heap.size, 0, none⟩ = some (.slice (some ⟨gQ, 0, none⟩) X.table.length cQ) := blk_cell ((Chg.of_below (M := fun _ => False) hbW).blk (blk_new wQ _) id); have HVW := Lib.hid (HVQ.out.below hbW))) | (go_at_call 10; (fail_if_success (have := hbU)); ((with_reducible refine (HTM.out _ _ _ HVW.out).mono ?_); rintro e wU ⟨rfl, hbU⟩; have hlU := hbU.size; have hxU : wU.cell? ⟨wQ.heap.size, 0, none⟩ = some (.slice (some ⟨gQ, 0, none⟩) X.table.length cQ) := (Chg.of_below (M := fun _ => False) hbU).cell hxW id; have HVU := Lib.hid (HVW.out.below hbU))) | (go_at_call 10; ((with_reducible refine (HSM.out _ _ _ HVU.out).mono ?_); rintro e wV ⟨rfl, hbV⟩)))
          go_ret
          exact ⟨rfl, (show Chg (fun _ => False) wr wV by (repeat (first | exact Chg.refl _ _ | with_reducible apply Chg.alloc | with_reducible apply Chg.drewN | with_reducible apply Chg.drew | with_reducible refine Chg.trans ?_ (Chg.of_below hbV) | with_reducible refine Chg.trans ?_ (Chg.of_below hbU) | with_reducible refine Chg.trans ?_ (Chg.of_below hbW) | with_reducible refine Chg.trans ?_ (Chg.of_below hbQ) | with_reducible refine Chg.trans ?_ (Chg.of_below hbT) | with_reducible refine Chg.trans ?_ (Chg.of_below hbM) | with_reducible refine Chg.trans ?_ (Chg.of_below hbP) ))).below fun _ _ h => h⟩
end Go.Proofs.Ytaaonhaighdlaaa
