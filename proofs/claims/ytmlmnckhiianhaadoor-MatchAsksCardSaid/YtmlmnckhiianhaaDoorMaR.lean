/- one: a matcher at the beginning of a text, walked. -/
import Derived.Test.YtmlmnckhiianhaaDoorMaL
import Derived.Test.YtmlmnckhiianhaaDoorMaK
import Derived.Test.YtmlmnckhiianhaaDoorShelf
import Derived.Test.YtmlmnckhiianhaaDoorMaI
import Derived.Deep.QuietTactic
namespace Go.Proofs.YtmlmnckhiianhaaDoor
open Go.RowKit
set_option linter.unusedVariables false
set_option linter.unusedSimpArgs false

theorem nk_byte (b : UInt8) : nk b.toNat = !(List.contains [61, 33] b) := by
  have h1 : (b.toNat == 61) = (b == 61) := by
    rw [Bool.eq_iff_iff, beq_iff_eq, beq_iff_eq]
    exact ⟨fun h => UInt8.toNat_inj.1 h, fun h => by rw [h]; rfl⟩
  have h2 : (b.toNat == 33) = (b == 33) := by
    rw [Bool.eq_iff_iff, beq_iff_eq, beq_iff_eq]
    exact ⟨fun h => UInt8.toNat_inj.1 h, fun h => by rw [h]; rfl⟩
  unfold nk
  rw [h1, h2]
  simp [List.contains, List.elem, Bool.or_comm]
  cases (b == 61) <;> cases (b == 33) <;> rfl
theorem indexAny_nk : ∀ l : List UInt8, Lib.indexAny l [61, 33] = if (l.map UInt8.toNat).dropWhile nk = [] then -1 else (((l.map UInt8.toNat).takeWhile nk).length : Int)
  | [] => rfl
  | b :: l => by
    have ih := indexAny_nk l
    unfold Lib.indexAny
    rw [List.map_cons, List.takeWhile_cons, List.dropWhile_cons, nk_byte]
    cases hb : List.contains [61, 33] b with
    | true => simp
    | false =>
      simp only [Bool.false_eq_true, if_false, Bool.not_false, if_true]
      rw [ih]
      by_cases h : (l.map UInt8.toNat).dropWhile nk = []
      · rw [if_pos h, if_pos h]; rfl
      · rw [if_neg h, if_neg h, if_neg (by simp)]
        simp
theorem prefix_nat : ∀ (p l : List UInt8), (p.map UInt8.toNat).isPrefixOf (l.map UInt8.toNat) = p.isPrefixOf l
  | [], l => by simp
  | a :: p, [] => by simp [List.isPrefixOf]
  | a :: p, b :: l => by
    simp only [List.map_cons, List.isPrefixOf]
    rw [prefix_nat p l]
    congr 1
    rw [Bool.eq_iff_iff, beq_iff_eq, beq_iff_eq]
    exact ⟨fun h => UInt8.toNat_inj.1 h, fun h => by rw [h]⟩
/-- The ways, as the program has them. -/
def opS : Nat → ByteArray
  | 0 => ⟨#[61]⟩
  | 1 => ⟨#[33, 61]⟩
  | 2 => ⟨#[61, 126]⟩
  | _ => ⟨#[33, 126]⟩
theorem opS_pb (s : ByteArray) (j : Nat) : Lib.hasPrefix s.data.toList (opS j ++ ⟨#[34]⟩).data.toList = pb (bys s) j := by
  unfold Lib.hasPrefix pb
  rw [← prefix_nat]
  congr 1
  match j with
  | 0 => rfl
  | 1 => rfl
  | 2 => rfl
  | j + 3 => rfl
theorem opS_size (j : Nat) : (opS j).size ≤ 2 := by
  match j with
  | 0 => decide
  | 1 => decide
  | 2 => decide
  | j + 3 => exact Nat.le_refl _
/-- The variable ops lies as it is laid. -/
def Ops (w : World) : Prop := ∀ j, j < 4 → w.cell? ⟨0, j, none⟩ = some (.string (opS j))
theorem Ops.below {w w' : World} (h : Ops w) (hb : Below w.heap.size w w') : Ops w' := fun j hj => by
  have := h j hj
  rw [hb.cell (block_lt_of_cell this)]
  exact this
theorem Ops.lt {w : World} (h : Ops w) : 0 < w.heap.size := block_lt_of_cell (h 0 (by omega))

theorem opS_len (j : Nat) : (pre j).length = (opS j).size := by
  match j with
  | 0 => rfl
  | 1 => rfl
  | 2 => rfl
  | j + 3 => rfl
theorem opAt_pb {v : List Nat} : ∀ {i k : Nat}, opAt v i = (k : Int) → pb v k = true ∧ k < i
  | 0, k, h => by unfold opAt at h; omega
  | i + 1, k, h => by
    unfold opAt at h
    by_cases hp : pb v i = true
    · rw [if_pos hp] at h
      obtain rfl : i = k := by omega
      exact ⟨hp, by omega⟩
    · rw [if_neg hp] at h
      obtain ⟨h1, h2⟩ := opAt_pb h
      exact ⟨h1, by omega⟩
theorem pb_len {v : List Nat} {k : Nat} (h : pb v k = true) : (opS k).size < v.length := by
  unfold pb at h
  have := (List.isPrefixOf_iff_prefix.1 h).length_le
  rw [List.length_append, opS_len] at this
  simp at this; omega
theorem idx_calls (s : ByteArray) (hs : s.size ≤ 1000000) (w : World) : Calls Tryd.prog 42 #[.string s, .string ⟨#[61, 33]⟩] w fun e w' =>
    e = .returned (.int .i64 (if (bys s).dropWhile nk = [] then -1 else (((bys s).takeWhile nk).length : Int))) ∧ Below w.heap.size w w' := by
  have hc : ∀ (j : Nat) b, (⟨#[61, 33]⟩ : ByteArray).data.toList[j]? = some b → b.toNat < 128 := fun j b hb => by
    match j, hb with
    | 0, hb => injection hb with hb; subst hb; decide
    | 1, hb => injection hb with hb; subst hb; decide
    | j + 2, hb => simp at hb
  have he : Lib.indexAny s.data.toList [61, 33] = if (bys s).dropWhile nk = [] then -1 else (((bys s).takeWhile nk).length : Int) := indexAny_nk _
  rw [← he]
  rcases Nat.lt_or_ge 8 s.size with h | h
  · have hz : (Tryd.prog.info? 116).map (fun i => (i.zero, i.size)) = some (some (.agg (Array.replicate 256 (.bool false))), 256) := by kernel_rfl
    refine (strings_IndexAny_long (Go.zero_of_info hz).1 s ⟨#[61, 33]⟩ w (by decide) h (by omega) (by decide) hc).mono ?_
    rintro e w' ⟨h1, rfl⟩
    exact ⟨h1, ((Below.refl _ _).alloc (Nat.le_refl _) _).alloc (by simp) _⟩
  · exact idx8_calls s h w

theorem bys_take (s : ByteArray) (n : Nat) : bys (s.extract 0 n) = (bys s).take n := by
  unfold bys
  rw [ByteArray.data_extract, Array.toList_extract, List.extract, ← List.map_take]
  simp
/-- What one answers. -/
def MOneRes (s : ByteArray) (e : Ending) : Prop := match oneP (bys s) with
  | none => ∃ a b c r, e = .returned (.tuple #[.agg #[.string a, .int .i64 b, .string c], .string r, .bool false])
  | some p => ∃ a c r : ByteArray, e = .returned (.tuple #[.agg #[.string a, .int .i64 p.1.op, .string c], .string r, .bool true]) ∧ bys a = p.1.name ∧ bys c = p.1.value ∧ bys r = p.2

set_option maxRecDepth 100000 in
set_option maxHeartbeats 1000000 in
theorem mone_calls (s : ByteArray) (hs : s.size ≤ 1000000) (w : World) (ho : Ops w) : Calls Tryd.prog 27 #[.string s] w fun e w' => MOneRes s e ∧ Below w.heap.size w w' := by
  have HIX := Lib.hid (idx_calls s hs)
  obtain ⟨R, hR⟩ : ∃ R, oneP (bys s) = R := ⟨_, rfl⟩
  unfold MOneRes
  rw [hR]
  by_cases hd : (bys s).dropWhile nk = []
  · have HD := Lib.hid hd
    obtain rfl : R = none := by rw [← hR]; unfold oneP; rw [hd, opAt_nil]; rfl
    clear hR hd
    go_enter Tryd.func27, Tryd.ntmps27
    go_wp2_with (go_at_call 42; (fail_if_success (have := hbI)); ((refine (HIX.out _).mono ?_); rintro e w3 ⟨rfl, hbI⟩; rw [if_pos HD.out]; have HB3 := Lib.hid (blk_below hbI (blk_new w _)); have x0 := blk_free (o := 0) HB3.out; have x1 := blk_free (o := 1) HB3.out; have x2 := blk_free (o := 2) HB3.out; have x3 : w3.cell? ⟨w.heap.size, 0, none⟩ = some (.string ⟨#[]⟩) := (blk_cell HB3.out).trans rfl; have x4 : w3.cell? ⟨w.heap.size, 1, none⟩ = some (.int .i64 0) := (blk_cell HB3.out).trans rfl; have x5 : w3.cell? ⟨w.heap.size, 2, none⟩ = some (.string ⟨#[]⟩) := (blk_cell HB3.out).trans rfl))
    have z0 : (w3.setCell ⟨w.heap.size, 0, none⟩ (.string ⟨#[]⟩)).cell? ⟨w.heap.size, 0, none⟩ = some (.string ⟨#[]⟩) := (blk_cell (blk_set HB3.out _)).trans rfl
    have z1 : ((w3.setCell ⟨w.heap.size, 0, none⟩ (.string ⟨#[]⟩)).setCell ⟨w.heap.size, 1, none⟩ (.int .i64 0)).cell? ⟨w.heap.size, 1, none⟩ = some (.int .i64 0) := (blk_cell (blk_set (blk_set HB3.out _) _)).trans rfl
    have z2 : (((w3.setCell ⟨w.heap.size, 0, none⟩ (.string ⟨#[]⟩)).setCell ⟨w.heap.size, 1, none⟩ (.int .i64 0)).setCell ⟨w.heap.size, 2, none⟩ (.string ⟨#[]⟩)).cell? ⟨w.heap.size, 2, none⟩ = some (.string ⟨#[]⟩) := (blk_cell (blk_set (blk_set (blk_set HB3.out _) _) _)).trans rfl
    refine bodyPost_ret (v := .tuple #[.agg #[.string ⟨#[]⟩, .int .i64 0, .string ⟨#[]⟩], .string ⟨#[]⟩, .bool false]) (by simp [results, Tryd.results27, go_sem, z0, z1, z2]) rfl ?_
    exact ⟨⟨_, _, _, _, rfl⟩, (Chg.setCell (Chg.setCell (Chg.setCell (Chg.of_below (M := fun k => w.heap.size ≤ k) (below_thn ((Below.refl _ _).alloc (Nat.le_refl _) _) hbI)) (.inr (Nat.le_refl _)) _) (.inr (Nat.le_refl _)) _) (.inr (Nat.le_refl _)) _).below (fun k hk h => by omega)⟩
  · have HD := Lib.hid hd
    generalize hn : ((bys s).takeWhile nk).length = n
    have hvv : (bys s).dropWhile nk = (bys s).drop n := by rw [dropWhile_len, hn]
    have hnl : n < s.size := by
      rw [hvv] at hd
      rcases Nat.lt_or_ge n s.size with h | h
      · exact h
      · exact absurd (List.drop_eq_nil_of_le (by rw [bys_len]; exact h)) hd
    unfold oneP at hR
    rw [hvv, takeWhile_len, hn] at hR
    obtain ⟨v, hv⟩ : ∃ v, (bys s).drop n = v := ⟨_, rfl⟩
    rw [hv] at hR
    have HR := Lib.hid hR
    have HV := Lib.hid hv
    have HN := Lib.hid hn
    clear hR hv hvv hd
    have hn0 : decide ((n : Int) < 0) = false := decide_eq_false (by omega)
    have hs1 : (0 : Int) ≤ (n : Int) ∧ (n : Int) ≤ (s.size : Int) := by omega
    go_enter Tryd.func27, Tryd.ntmps27
    go_wp2_with (go_at_call 42; (fail_if_success (have := hbI)); ((refine (HIX.out _).mono ?_); rintro e w3 ⟨rfl, hbI⟩; rw [if_neg HD.out, HN.out]; have HB3 := Lib.hid (blk_below hbI (blk_new w _))))
    have hz3 : w.heap.size < w3.heap.size := by have := hbI.size; simp at this; omega
    have HC0 := Lib.hid (Chg.alloc (Chg.of_below (M := fun k => w.heap.size ≤ k) (below_thn ((Below.refl _ _).alloc (Nat.le_refl _) _) hbI)) (.cells #[.string (s.extract 0 n), .int .i64 (-1), .string ⟨#[]⟩] 36))
    go_loopg [18] 5 (fun k u18 wr => ∃ i : Nat, u18 = .int .i64 (i : Int) ∧ i + k = 5 ∧ i ≤ 4 ∧ Hid (wr.heap[w3.heap.size]? = some (.cells #[.string (s.extract 0 n), .int .i64 (opAt v i), .string ⟨#[]⟩] 36 (0, 0))) ∧ Hid (Chg (fun k => w.heap.size ≤ k) w wr) ∧ Hid (wr.heap[w.heap.size]? = some (.cells #[.string ⟨#[]⟩, .int .i64 0, .string ⟨#[]⟩] 36 (0, 0))))
    case atStart => exact ⟨0, rfl, by omega, by omega, Lib.hid (blk_new _ _), HC0, Lib.hid (blk_alloc HB3.out _)⟩
    case round =>
      obtain ⟨i, rfl, hik, hil, HM, HC, HRB⟩ := hrel
      obtain ⟨wo, rfl⟩ : ∃ m : World, m = wr := ⟨_, rfl⟩
      clear HC0 HB3
      by_cases hi4 : i < 4
      · have hc1 : decide ((i : Int) < 4) = true := decide_eq_true (by omega)
        have hc2 : (i : Int) < 4 := by omega
        have hc3 : (0 : Int) ≤ (i : Int) := by omega
        have hop : wo.cell? ⟨0, i, none⟩ = some (.string (opS i)) := HC.out.cell (ho i hi4) (by have := ho.lt; show ¬ (w.heap.size ≤ 0); omega)
        have hhp : Lib.hasPrefix (s.extract n s.size).data.toList (opS i ++ ⟨#[34]⟩).data.toList = pb v i := by rw [opS_pb, bys_extract, HV.out]
        have HHP := Lib.hid hhp
        have m0 := blk_free (o := 1) HM.out
        have m1 : wo.cell? ⟨w3.heap.size, 1, none⟩ = some (.int .i64 (opAt v i)) := (blk_cell HM.out).trans rfl
        have hz := opS_size i
        have hq1 : ¬ ((opS i).size + (⟨#[34]⟩ : ByteArray).size > 9223372036854775807) := by have : (⟨#[34]⟩ : ByteArray).size = 1 := rfl; omega
        have hq2 : ¬ (9223372036854775807 < (opS i).size + (⟨#[34]⟩ : ByteArray).size) := hq1
        have hq3 : ¬ (9223372036854775807 < (opS i).size + 1) := hq1
        have hq4 : (opS i).size + 1 ≤ 9223372036854775807 := by omega
        clear hhp
        cases hP : pb v i with
        | true =>
          have HO := Lib.hid (show opAt v (i + 1) = (i : Int) by conv => lhs; unfold opAt
                                                                 rw [hP]; rfl)
          rw [hP] at HHP
          clear hP
          have hcall : ∀ W : World, Calls Tryd.prog 43 #[.string (s.extract n s.size), .string (opS i ++ ⟨#[34]⟩)] W fun e w' => e = .returned (.bool true) ∧ w' = W := fun W => by
            have := strings_HasPrefix (s.extract n s.size) (opS i ++ ⟨#[34]⟩) W
            rw [HHP.out] at this; exact this
          go_wp2
          go_quiet (exact Calls.quiet_of_same (hcall _))
          go_wp2
          go_roundg (gk - 1)
          case measure => omega
          case rel => exact ⟨i + 1, by go_num, by omega, by omega, Lib.hid (by rw [HO.out]; exact (blk_set (blk_drewN HM.out _) _).trans rfl), Lib.hid ((HC.out.drewN _).setCell (.inl (by simp; omega)) _), Lib.hid (blk_set_far (blk_drewN HRB.out _) (by simp; omega) _)⟩
        | false =>
          have HO := Lib.hid (show opAt v (i + 1) = opAt v i by conv => lhs; unfold opAt
                                                                rw [hP]; rfl)
          rw [hP] at HHP
          clear hP
          have hcall : ∀ W : World, Calls Tryd.prog 43 #[.string (s.extract n s.size), .string (opS i ++ ⟨#[34]⟩)] W fun e w' => e = .returned (.bool false) ∧ w' = W := fun W => by
            have := strings_HasPrefix (s.extract n s.size) (opS i ++ ⟨#[34]⟩) W
            rw [HHP.out] at this; exact this
          go_wp2
          go_quiet (exact Calls.quiet_of_same (hcall _))
          go_wp2
          go_roundg (gk - 1)
          case measure => omega
          case rel => exact ⟨i + 1, by go_num, by omega, by omega, Lib.hid (by rw [HO.out]; exact blk_drewN HM.out _), Lib.hid (HC.out.drewN _), Lib.hid (blk_drewN HRB.out _)⟩
      · obtain rfl : i = 4 := by omega
        have r0 := blk_free (o := 0) HRB.out
        have r1 := blk_free (o := 1) HRB.out
        have r2 := blk_free (o := 2) HRB.out
        have r3 : wo.cell? ⟨w.heap.size, 0, none⟩ = some (.string ⟨#[]⟩) := (blk_cell HRB.out).trans rfl
        have r4 : wo.cell? ⟨w.heap.size, 1, none⟩ = some (.int .i64 0) := (blk_cell HRB.out).trans rfl
        have r5 : wo.cell? ⟨w.heap.size, 2, none⟩ = some (.string ⟨#[]⟩) := (blk_cell HRB.out).trans rfl
        by_cases hneg : opAt v 4 < 0
        · obtain rfl : R = none := by rw [← HR.out, if_pos hneg]
          have hc2 : decide (opAt v 4 < 0) = true := decide_eq_true hneg
          have m1 : wo.cell? ⟨w3.heap.size, 1, none⟩ = some (.int .i64 (opAt v 4)) := (blk_cell HM.out).trans rfl
          clear hneg
          go_wp2
          have z0 : (wo.setCell ⟨w.heap.size, 0, none⟩ (.string ⟨#[]⟩)).cell? ⟨w.heap.size, 0, none⟩ = some (.string ⟨#[]⟩) := (blk_cell (blk_set HRB.out _)).trans rfl
          have z1 : ((wo.setCell ⟨w.heap.size, 0, none⟩ (.string ⟨#[]⟩)).setCell ⟨w.heap.size, 1, none⟩ (.int .i64 0)).cell? ⟨w.heap.size, 1, none⟩ = some (.int .i64 0) := (blk_cell (blk_set (blk_set HRB.out _) _)).trans rfl
          have z2 : (((wo.setCell ⟨w.heap.size, 0, none⟩ (.string ⟨#[]⟩)).setCell ⟨w.heap.size, 1, none⟩ (.int .i64 0)).setCell ⟨w.heap.size, 2, none⟩ (.string ⟨#[]⟩)).cell? ⟨w.heap.size, 2, none⟩ = some (.string ⟨#[]⟩) := (blk_cell (blk_set (blk_set (blk_set HRB.out _) _) _)).trans rfl
          refine bodyPost_ret (v := .tuple #[.agg #[.string ⟨#[]⟩, .int .i64 0, .string ⟨#[]⟩], .string ⟨#[]⟩, .bool false]) (by simp [results, Tryd.results27, go_sem, z0, z1, z2]) rfl ?_
          exact ⟨⟨_, _, _, _, rfl⟩, (Chg.setCell (Chg.setCell (Chg.setCell HC.out (.inr (Nat.le_refl _)) _) (.inr (Nat.le_refl _)) _) (.inr (Nat.le_refl _)) _).below (fun k hk h => by omega)⟩
        · obtain ⟨k, hk⟩ : ∃ k : Nat, opAt v 4 = (k : Int) := ⟨(opAt v 4).toNat, by omega⟩
          obtain ⟨hpb, hk4⟩ := opAt_pb hk
          have hlen := pb_len hpb
          have hvl : v.length = s.size - n := by rw [← HV.out, List.length_drop, bys_len]
          have hr := HR.out
          rw [if_neg hneg, hk, Int.toNat_natCast, opS_len] at hr
          rw [hk] at HM
          have HR2 := Lib.hid hr
          have hU : (bys (s.extract (n + (opS k).size) s.size)) = v.drop (opS k).size := by rw [bys_extract, ← HV.out, List.drop_drop]
          have HU := Lib.hid hU
          have hc2 : decide ((k : Int) < 0) = false := decide_eq_false (by omega)
          have hc3 : (k : Int) < 4 := by omega
          have hc4 : (0 : Int) ≤ (k : Int) := by omega
          have m1 : wo.cell? ⟨w3.heap.size, 1, none⟩ = some (.int .i64 (k : Int)) := (blk_cell HM.out).trans rfl
          have hop : wo.cell? ⟨0, k, none⟩ = some (.string (opS k)) := HC.out.cell (ho k hk4) (by have := ho.lt; show ¬ (w.heap.size ≤ 0); omega)
          have hz := opS_size k
          have hw1 : IntKind.i64.wrap ((n : Int) + ((opS k).size : Int)) = (n : Int) + ((opS k).size : Int) := IntWalk.i64_in _ (by omega)
          have hs2 : (0 : Int) ≤ (n : Int) + ((opS k).size : Int) ∧ (n : Int) + ((opS k).size : Int) ≤ (s.size : Int) := by omega
          have hs3 : ((n : Int) + ((opS k).size : Int)).toNat = n + (opS k).size := by omega
          clear hr hU hneg hk hpb HR HIX hi4
          cases hun0 : unquote (v.drop (opS k).size) with
          | none =>
            have HUN := Lib.hid hun0
            clear hun0
            obtain rfl : R = none := by rw [← HR2.out, HUN.out]; rfl
            go_wp2_with (go_at_call 44; (fail_if_success (have := hbU)); ((refine (unquote_calls (s.extract (n + (opS k).size) s.size) (by rw [ByteArray.size_extract]; omega) _).mono ?_); rintro e w5 ⟨hun, hbU⟩; unfold UnqRes at hun; rw [HU.out, HUN.out] at hun; subst hun; have HRB5 := Lib.hid (blk_below hbU HRB.out); have HM5 := Lib.hid (blk_below hbU HM.out); have q0 := blk_free (o := 0) HRB5.out; have q1 := blk_free (o := 1) HRB5.out; have q2 := blk_free (o := 2) HRB5.out; have q3 : w5.cell? ⟨w.heap.size, 0, none⟩ = some (.string ⟨#[]⟩) := (blk_cell HRB5.out).trans rfl; have q4 : w5.cell? ⟨w.heap.size, 1, none⟩ = some (.int .i64 0) := (blk_cell HRB5.out).trans rfl; have q5 : w5.cell? ⟨w.heap.size, 2, none⟩ = some (.string ⟨#[]⟩) := (blk_cell HRB5.out).trans rfl; have q6 := blk_free (o := 2) HM5.out; have q7 : w5.cell? ⟨w3.heap.size, 0, none⟩ = some (.string (s.extract 0 n)) := (blk_cell HM5.out).trans rfl; have q8 : w5.cell? ⟨w3.heap.size, 1, none⟩ = some (.int .i64 (k : Int)) := (blk_cell HM5.out).trans rfl; have q9 : w5.cell? ⟨w3.heap.size, 2, none⟩ = some (.string ⟨#[]⟩) := (blk_cell HM5.out).trans rfl))
            have z0 : ((w5.setCell ⟨w3.heap.size, 2, none⟩ (.string ⟨#[]⟩)).setCell ⟨w.heap.size, 0, none⟩ (.string (s.extract 0 n))).cell? ⟨w.heap.size, 0, none⟩ = some (.string (s.extract 0 n)) := (blk_cell (blk_set (blk_set_far HRB5.out (by simp; omega) _) _)).trans rfl
            have z1 : (((w5.setCell ⟨w3.heap.size, 2, none⟩ (.string ⟨#[]⟩)).setCell ⟨w.heap.size, 0, none⟩ (.string (s.extract 0 n))).setCell ⟨w.heap.size, 1, none⟩ (.int .i64 (k : Int))).cell? ⟨w.heap.size, 1, none⟩ = some (.int .i64 (k : Int)) := (blk_cell (blk_set (blk_set (blk_set_far HRB5.out (by simp; omega) _) _) _)).trans rfl
            have z2 : ((((w5.setCell ⟨w3.heap.size, 2, none⟩ (.string ⟨#[]⟩)).setCell ⟨w.heap.size, 0, none⟩ (.string (s.extract 0 n))).setCell ⟨w.heap.size, 1, none⟩ (.int .i64 (k : Int))).setCell ⟨w.heap.size, 2, none⟩ (.string ⟨#[]⟩)).cell? ⟨w.heap.size, 2, none⟩ = some (.string ⟨#[]⟩) := (blk_cell (blk_set (blk_set (blk_set (blk_set_far HRB5.out (by simp; omega) _) _) _) _)).trans rfl
            refine bodyPost_ret (v := .tuple #[.agg #[.string (s.extract 0 n), .int .i64 (k : Int), .string ⟨#[]⟩], .string ⟨#[]⟩, .bool false]) (by simp [results, Tryd.results27, go_sem, z0, z1, z2]) rfl ?_
            exact ⟨⟨_, _, _, _, rfl⟩, (Chg.setCell (Chg.setCell (Chg.setCell (Chg.setCell (Chg.of_below (M := fun k => w.heap.size ≤ k) (below_thn (HC.out.below (fun k hk h => by omega)) hbU)) (.inl (by simp; omega)) _) (.inr (Nat.le_refl _)) _) (.inr (Nat.le_refl _)) _) (.inr (Nat.le_refl _)) _).below (fun k hk h => by omega)⟩
          | some p =>
            have HUN := Lib.hid hun0
            clear hun0
            obtain rfl : R = some (⟨(bys s).take n, (k : Int), p.1⟩, p.2) := by rw [← HR2.out, HUN.out]; rfl
            go_wp2_with (go_at_call 44; (fail_if_success (have := hbU)); ((refine (unquote_calls (s.extract (n + (opS k).size) s.size) (by rw [ByteArray.size_extract]; omega) _).mono ?_); rintro e w5 ⟨hun, hbU⟩; unfold UnqRes at hun; rw [HU.out, HUN.out] at hun; obtain ⟨tb, rb, rfl, ht1, ht2⟩ := hun; have HT := Lib.hid (And.intro ht1 ht2); clear ht1 ht2; have HRB5 := Lib.hid (blk_below hbU HRB.out); have HM5 := Lib.hid (blk_below hbU HM.out); have q0 := blk_free (o := 0) HRB5.out; have q1 := blk_free (o := 1) HRB5.out; have q2 := blk_free (o := 2) HRB5.out; have q3 : w5.cell? ⟨w.heap.size, 0, none⟩ = some (.string ⟨#[]⟩) := (blk_cell HRB5.out).trans rfl; have q4 : w5.cell? ⟨w.heap.size, 1, none⟩ = some (.int .i64 0) := (blk_cell HRB5.out).trans rfl; have q5 : w5.cell? ⟨w.heap.size, 2, none⟩ = some (.string ⟨#[]⟩) := (blk_cell HRB5.out).trans rfl; have q6 := blk_free (o := 2) HM5.out; have q7 : w5.cell? ⟨w3.heap.size, 0, none⟩ = some (.string (s.extract 0 n)) := (blk_cell HM5.out).trans rfl; have q8 : w5.cell? ⟨w3.heap.size, 1, none⟩ = some (.int .i64 (k : Int)) := (blk_cell HM5.out).trans rfl; have q9 : w5.cell? ⟨w3.heap.size, 2, none⟩ = some (.string ⟨#[]⟩) := (blk_cell HM5.out).trans rfl))
            have z0 : ((w5.setCell ⟨w3.heap.size, 2, none⟩ (.string tb)).setCell ⟨w.heap.size, 0, none⟩ (.string (s.extract 0 n))).cell? ⟨w.heap.size, 0, none⟩ = some (.string (s.extract 0 n)) := (blk_cell (blk_set (blk_set_far HRB5.out (by simp; omega) _) _)).trans rfl
            have z1 : (((w5.setCell ⟨w3.heap.size, 2, none⟩ (.string tb)).setCell ⟨w.heap.size, 0, none⟩ (.string (s.extract 0 n))).setCell ⟨w.heap.size, 1, none⟩ (.int .i64 (k : Int))).cell? ⟨w.heap.size, 1, none⟩ = some (.int .i64 (k : Int)) := (blk_cell (blk_set (blk_set (blk_set_far HRB5.out (by simp; omega) _) _) _)).trans rfl
            have z2 : ((((w5.setCell ⟨w3.heap.size, 2, none⟩ (.string tb)).setCell ⟨w.heap.size, 0, none⟩ (.string (s.extract 0 n))).setCell ⟨w.heap.size, 1, none⟩ (.int .i64 (k : Int))).setCell ⟨w.heap.size, 2, none⟩ (.string tb)).cell? ⟨w.heap.size, 2, none⟩ = some (.string tb) := (blk_cell (blk_set (blk_set (blk_set (blk_set_far HRB5.out (by simp; omega) _) _) _) _)).trans rfl
            refine bodyPost_ret (v := .tuple #[.agg #[.string (s.extract 0 n), .int .i64 (k : Int), .string tb], .string rb, .bool true]) (by simp [results, Tryd.results27, go_sem, z0, z1, z2]) rfl ?_
            exact ⟨⟨_, _, _, rfl, bys_take s n, HT.out.1, HT.out.2⟩, (Chg.setCell (Chg.setCell (Chg.setCell (Chg.setCell (Chg.of_below (M := fun k => w.heap.size ≤ k) (below_thn (HC.out.below (fun k hk h => by omega)) hbU)) (.inl (by simp; omega)) _) (.inr (Nat.le_refl _)) _) (.inr (Nat.le_refl _)) _) (.inr (Nat.le_refl _)) _).below (fun k hk h => by omega)⟩
end Go.Proofs.YtmlmnckhiianhaaDoor
