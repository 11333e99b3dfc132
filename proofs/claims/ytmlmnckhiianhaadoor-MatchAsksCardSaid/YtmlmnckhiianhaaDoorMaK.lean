/- Unquote, walked. -/
import Derived.Test.YtmlmnckhiianhaaDoorMaL
import Derived.Test.YtmlmnckhiianhaaDoorMaG
import Derived.Lib.BufferRead
namespace Go.Proofs.YtmlmnckhiianhaaDoor
open Go.RowKit
set_option linter.unusedVariables false
set_option linter.unusedSimpArgs false

/-- What Unquote answers. -/
def UnqRes (s : ByteArray) (e : Ending) : Prop := match unquote (bys s) with
  | none => e = .returned (.tuple #[.string ⟨#[]⟩, .string ⟨#[]⟩, .bool false])
  | some p => ∃ t r : ByteArray, e = .returned (.tuple #[.string t, .string r, .bool true]) ∧ bys t = p.1 ∧ bys r = p.2

theorem Tryd.infoU8 : (Tryd.prog.info? 5).map (fun i => (i.zero, i.size, i.bytes)) = some (some (.int .u8 0), 1, 1) := by kernel_rfl
theorem bys_extract (s : ByteArray) (i : Nat) : bys (s.extract i s.size) = (bys s).drop i := by
  unfold bys
  rw [ByteArray.data_extract, Array.toList_extract, List.extract, ← List.map_drop]
  congr 1
  apply List.take_of_length_le
  rw [List.length_drop, Array.length_toList]
  show s.data.size - i ≤ s.data.size - i
  exact Nat.le_refl _
theorem bys_mk (l : List UInt8) : bys ⟨l.toArray⟩ = l.map UInt8.toNat := by simp [bys]
theorem cells_snoc (l : List UInt8) (c : UInt8) : Lib.byteCells (l ++ [c]) = Lib.byteCells l ++ [.int .u8 c.toNat] := by simp [Lib.byteCells]

theorem conv_row {w : World} {B : Nat} {v : Value} {l : List UInt8} (h : w.ownsRow B 5 1 v l.length (Lib.byteCells l)) : (convert 97 9 v).run Tryd.prog w = .ok (.string ⟨l.toArray⟩) w := by
  rcases h.2 with ⟨rfl, h0⟩ | ⟨g, cap, cur, rfl, hB, hg, h1, h2, h3, h4⟩
  · obtain rfl := List.length_eq_zero_iff.1 h0
    exact Lib.run_convert_nil_bytes w _ _ _ 0 Tryd.underlying97 Tryd.underlying5 Tryd.underlying9
  · exact run_convert_bytes_back w _ _ _ _ cap l Tryd.underlying97 Tryd.underlying5 Tryd.underlying9 (Lib.bytes_of_row hg (by simpa using h4))

set_option maxRecDepth 100000 in
set_option maxHeartbeats 1000000 in
theorem unquote_calls (s : ByteArray) (hs : s.size ≤ 1000000) (w : World) : Calls Tryd.prog 44 #[.string s] w fun e w' => UnqRes s e ∧ Below w.heap.size w w' := by
  obtain ⟨i0, hinf, hz0, hz1, hz2⟩ := info_parts Tryd.infoU8
  obtain ⟨R, hR⟩ : ∃ R, unquote (bys s) = R := ⟨_, rfl⟩
  unfold UnqRes
  rw [hR]
  have HR := Lib.hid hR
  clear hR
  by_cases h1 : s.size = 0
  · have hs0 : s.toList = [] := by
      obtain ⟨⟨l⟩⟩ := s
      rw [ByteArray.toList_eq]
      exact List.length_eq_zero_iff.1 h1
    have hr := HR.out
    rw [show bys s = [] from List.length_eq_zero_iff.1 (by rw [bys_len]; exact h1)] at hr
    obtain rfl : R = none := hr.symm
    clear hr h1
    go_enter Tryd.func44, Tryd.ntmps44
    go_wp2
    refine bodyPost_ret (v := .tuple #[.string ⟨#[]⟩, .string ⟨#[]⟩, .bool false]) (by simp [results, Tryd.results44, go_sem]) rfl ?_
    exact ⟨rfl, Below.refl _ _⟩
  have hne2 : s.toList.isEmpty = false := by
    cases h : s.toList with
    | nil =>
      obtain ⟨⟨l⟩⟩ := s
      rw [ByteArray.toList_eq] at h
      exact absurd (show (ByteArray.mk ⟨l⟩).size = 0 by simp at h; subst h; rfl) h1
    | cons a l => rfl
  have hg0 := bys_get s 0 (by omega)
  have hu : bys s = s[0].toNat :: (bys s).drop 1 := by
    have := drop_get hg0
    simpa using this
  have h0 : (0 : Nat) < s.size := by omega
  by_cases hq : s[0].toNat = 34
  · have hc : ((s[0].toNat : Int) != 34) = false := by rw [hq]; rfl
    have hr := HR.out
    rw [hu, hq] at hr
    have HINV := Lib.hid (show addp [] (uq ((bys s).drop 1)) = R by rw [addp_nil]; exact hr)
    clear hr hq hu hg0 HR h1
    go_enter Tryd.func44, Tryd.ntmps44
    go_wp2
    go_loopg [5, 6] (s.size + 1) (fun k u5 u6 wr => ∃ (i : Nat) (l : List UInt8), u6 = .int .i64 (i : Int) ∧ i + k = s.size + 2 ∧ i ≤ s.size ∧ Hid (wr.ownsRow w.heap.size 5 1 u5 l.length (Lib.byteCells l)) ∧ Hid (l.length ≤ i) ∧ Hid (addp (l.map UInt8.toNat) (uq ((bys s).drop i)) = R) ∧ Hid (Below w.heap.size w wr))
    case atStart => exact ⟨1, [], rfl, by omega, by omega, Lib.hid ⟨rfl, .inl ⟨rfl, rfl⟩⟩, Lib.hid (Nat.zero_le _), HINV, Lib.hid (Below.refl _ _)⟩
    case round =>
      obtain ⟨i, l, rfl, hik, hil, HO, HLL, HRR, hbel⟩ := hrel
      obtain ⟨wo, rfl⟩ : ∃ m : World, m = wr := ⟨_, rfl⟩
      obtain ⟨bA, bN, bC, rfl⟩ : ∃ A n c, u5 = .slice A n c := own_sl HO.out
      clear HINV
      by_cases hi : i < s.size
      · have hc1 : decide (i < s.size) = true := decide_eq_true hi
        have hc2 : (i : Int) < (s.size : Int) := by omega
        have hc3 : (0 : Int) ≤ (i : Int) := by omega
        have HB := Lib.hid (bys_get s i hi)
        have HD := Lib.hid (drop_get HB.out)
        by_cases r34 : s[i].toNat = 34
        · have hinv := HRR.out
          rw [HD.out, r34, uq_quote] at hinv
          have e34 : ((s[i].toNat : Int) == 34) = true := by rw [r34]; rfl
          clear r34
          obtain rfl : R = some (l.map UInt8.toNat, (bys s).drop (i + 1)) := by rw [← hinv]; simp [addp]
          clear hinv
          have hcv := conv_row (w := wo.drew) HO.out
          have hw1 : IntKind.i64.wrap ((i : Int) + 1) = (i : Int) + 1 := IntWalk.i64_in _ (by omega)
          have hs1 : (0 : Int) ≤ (i : Int) + 1 ∧ (i : Int) + 1 ≤ (s.size : Int) := by omega
          go_wp2_with (go_region)
          refine bodyPost_ret (v := .tuple #[.string ⟨l.toArray⟩, .string (s.extract (i + 1) s.size), .bool true]) (by simp [results, Tryd.results44, go_sem]) rfl ?_
          exact ⟨⟨_, _, rfl, bys_mk l, bys_extract s (i + 1)⟩, ((Chg.of_below (M := fun _ => False) hbel.out).drew).below (fun k _ h => h)⟩
        · have e34 : ((s[i].toNat : Int) == 34) = false := by simp; omega
          by_cases r10 : s[i].toNat = 10
          · have hinv := HRR.out
            rw [HD.out, r10, uq_feed] at hinv
            obtain rfl : R = none := hinv.symm
            have e10 : ((s[i].toNat : Int) == 10) = true := by rw [r10]; rfl
            clear hinv r10 r34
            go_wp2
            refine bodyPost_ret (v := .tuple #[.string ⟨#[]⟩, .string ⟨#[]⟩, .bool false]) (by simp [results, Tryd.results44, go_sem]) rfl ?_
            exact ⟨rfl, hbel.out⟩
          · have e10 : ((s[i].toNat : Int) == 10) = false := by simp; omega
            by_cases r92 : s[i].toNat = 92
            · have e92 : ((s[i].toNat : Int) != 92) = false := by rw [r92]; rfl
              have hw1 : IntKind.i64.wrap ((i : Int) + 1) = (i : Int) + 1 := IntWalk.i64_in _ (by omega)
              by_cases hi2 : i + 1 < s.size
              · have HD2 := Lib.hid (drop_get (bys_get s (i + 1) hi2))
                have hc4 : ((i : Int) + 1 == (s.size : Int)) = false := by simp; omega
                have hc5 : (0 : Int) ≤ (i : Int) + 1 := by omega
                have hc6 : (i : Int) + 1 < (s.size : Int) := by omega
                have hc7 : ((i : Int) + 1).toNat = i + 1 := by omega
                by_cases q110 : s[i + 1].toNat = 110
                · have hinv := HRR.out
                  rw [HD.out, r92, HD2.out, q110, uq_n, addp_cons] at hinv
                  have HINV := Lib.hid (show addp ((l ++ [10]).map UInt8.toNat) (uq ((bys s).drop (i + 2))) = R by rw [List.map_append]; exact hinv)
                  have e110 : ((s[i + 1].toNat : Int) == 110) = true := by rw [q110]; rfl
                  clear hinv r34 r10 r92 q110
                  go_wp2_with (at_builtin; go_loud (refine wpList_append_lies _ rfl (.tmp 55) (.tmp 56) 97 rfl w.heap.size 5 i0 (.int .u8 0) 1 1 Tryd.underlying97 hinf hz0 hz1 hz2 rfl (by decide) (.slice bA bN bC) l.length (Lib.byteCells l) rfl (by exact HO.out.alloc _) ⟨_, 0, none⟩ 1 1 [.int .u8 10] rfl rfl (World.news_of_block (blk_new _ _)) (fun u hu => by simp at hu; subst hu; rfl) (by decide) (by have := HLL.out; unfold maxLen; omega) (by have := HLL.out; omega) (by have := hbel.out.size; simp; omega) _ rfl (fun g1 cap w3 hown3 hgr3 hor3 hlt3 => ?_)))
                  have hw2 : IntKind.i64.wrap ((i : Int) + 1 + 1) = (i : Int) + 2 := (IntWalk.i64_in _ (by omega)).trans (by omega)
                  go_roundg (gk - 2)
                  case measure => omega
                  case rel => exact ⟨i + 2, l ++ [10], by go_num, by omega, by omega, Lib.hid (by rw [cells_snoc, List.length_append]; exact hown3), Lib.hid (by have := HLL.out; simp; omega), HINV, Lib.hid ((((Chg.of_below (M := fun k => w.heap.size ≤ k) hbel.out).alloc _).grown hgr3 (fun k hk => .inr (HO.out.lt k hk).1)).below (fun k hk h => by omega))⟩
                · have e110 : ((s[i + 1].toNat : Int) == 110) = false := by simp; omega
                  by_cases qe : s[i + 1].toNat = 34 ∨ s[i + 1].toNat = 92
                  · have hinv := HRR.out
                    rw [HD.out, r92, HD2.out, uq_esc qe, addp_cons] at hinv
                    have HINV := Lib.hid (show addp ((l ++ [s[i + 1]]).map UInt8.toNat) (uq ((bys s).drop (i + 2))) = R by rw [List.map_append]; exact hinv)
                    have hor : ((s[i + 1].toNat : Int) == 34 || (s[i + 1].toNat : Int) == 92) = true := by rcases qe with h | h <;> rw [h] <;> rfl
                    clear hinv r34 r10 r92 q110
                    rcases qe with qe | qe
                    · have f34 : ((s[i + 1].toNat : Int) == 34) = true := by rw [qe]; rfl
                      clear qe hor
                      go_wp2_with (at_builtin; go_loud (refine wpList_append_lies _ rfl (.tmp 69) (.tmp 73) 97 rfl w.heap.size 5 i0 (.int .u8 0) 1 1 Tryd.underlying97 hinf hz0 hz1 hz2 rfl (by decide) (.slice bA bN bC) l.length (Lib.byteCells l) rfl (by exact HO.out.alloc _) ⟨_, 0, none⟩ 1 1 [.int .u8 s[i + 1].toNat] rfl rfl (World.news_of_block (blk_new _ _)) (fun u hu => by simp at hu; subst hu; rfl) (by decide) (by have := HLL.out; unfold maxLen; omega) (by have := HLL.out; omega) (by have := hbel.out.size; simp; omega) _ rfl (fun g1 cap w3 hown3 hgr3 hor3 hlt3 => ?_)))
                      have hw2 : IntKind.i64.wrap ((i : Int) + 1 + 1) = (i : Int) + 2 := (IntWalk.i64_in _ (by omega)).trans (by omega)
                      go_roundg (gk - 2)
                      case measure => omega
                      case rel => exact ⟨i + 2, l ++ [s[i + 1]], by go_num, by omega, by omega, Lib.hid (by rw [cells_snoc, List.length_append]; exact hown3), Lib.hid (by have := HLL.out; simp; omega), HINV, Lib.hid ((((Chg.of_below (M := fun k => w.heap.size ≤ k) hbel.out).alloc _).grown hgr3 (fun k hk => .inr (HO.out.lt k hk).1)).below (fun k hk h => by omega))⟩
                    · have f34 : ((s[i + 1].toNat : Int) == 34) = false := by rw [qe]; rfl
                      have f92 : ((s[i + 1].toNat : Int) == 92) = true := by rw [qe]; rfl
                      clear qe hor
                      go_wp2_with (at_builtin; go_loud (refine wpList_append_lies _ rfl (.tmp 69) (.tmp 73) 97 rfl w.heap.size 5 i0 (.int .u8 0) 1 1 Tryd.underlying97 hinf hz0 hz1 hz2 rfl (by decide) (.slice bA bN bC) l.length (Lib.byteCells l) rfl (by exact HO.out.alloc _) ⟨_, 0, none⟩ 1 1 [.int .u8 s[i + 1].toNat] rfl rfl (World.news_of_block (blk_new _ _)) (fun u hu => by simp at hu; subst hu; rfl) (by decide) (by have := HLL.out; unfold maxLen; omega) (by have := HLL.out; omega) (by have := hbel.out.size; simp; omega) _ rfl (fun g1 cap w3 hown3 hgr3 hor3 hlt3 => ?_)))
                      have hw2 : IntKind.i64.wrap ((i : Int) + 1 + 1) = (i : Int) + 2 := (IntWalk.i64_in _ (by omega)).trans (by omega)
                      go_roundg (gk - 2)
                      case measure => omega
                      case rel => exact ⟨i + 2, l ++ [s[i + 1]], by go_num, by omega, by omega, Lib.hid (by rw [cells_snoc, List.length_append]; exact hown3), Lib.hid (by have := HLL.out; simp; omega), HINV, Lib.hid ((((Chg.of_below (M := fun k => w.heap.size ≤ k) hbel.out).alloc _).grown hgr3 (fun k hk => .inr (HO.out.lt k hk).1)).below (fun k hk h => by omega))⟩
                  · have hinv := HRR.out
                    rw [HD.out, r92, HD2.out, uq_bad q110 qe] at hinv
                    obtain rfl : R = none := hinv.symm
                    have f34 : ((s[i + 1].toNat : Int) == 34) = false := by simp; omega
                    have f92 : ((s[i + 1].toNat : Int) == 92) = false := by simp; omega
                    clear hinv r34 r10 r92 q110 qe
                    go_wp2
                    refine bodyPost_ret (v := .tuple #[.string ⟨#[]⟩, .string ⟨#[]⟩, .bool false]) (by simp [results, Tryd.results44, go_sem]) rfl ?_
                    exact ⟨rfl, hbel.out⟩
              · have hinv := HRR.out
                rw [HD.out, r92, List.drop_eq_nil_of_le (by rw [bys_len]; omega), uq_end] at hinv
                obtain rfl : R = none := hinv.symm
                have hc4 : ((i : Int) + 1 == (s.size : Int)) = true := by simp; omega
                clear hinv r34 r10 r92
                go_wp2
                refine bodyPost_ret (v := .tuple #[.string ⟨#[]⟩, .string ⟨#[]⟩, .bool false]) (by simp [results, Tryd.results44, go_sem]) rfl ?_
                exact ⟨rfl, hbel.out⟩
            · have e92 : ((s[i].toNat : Int) != 92) = true := by simp; omega
              have hinv := HRR.out
              rw [HD.out, uq_plain r34 r10 r92, addp_cons] at hinv
              have HINV := Lib.hid (show addp ((l ++ [s[i]]).map UInt8.toNat) (uq ((bys s).drop (i + 1))) = R by rw [List.map_append]; exact hinv)
              clear hinv r34 r10 r92
              go_wp2_with (at_builtin; go_loud (refine wpList_append_lies _ rfl (.tmp 39) (.tmp 41) 97 rfl w.heap.size 5 i0 (.int .u8 0) 1 1 Tryd.underlying97 hinf hz0 hz1 hz2 rfl (by decide) (.slice bA bN bC) l.length (Lib.byteCells l) rfl (by exact HO.out.alloc _) ⟨_, 0, none⟩ 1 1 [.int .u8 s[i].toNat] rfl rfl (World.news_of_block (blk_new _ _)) (fun u hu => by simp at hu; subst hu; rfl) (by decide) (by have := HLL.out; unfold maxLen; omega) (by have := HLL.out; omega) (by have := hbel.out.size; simp; omega) _ rfl (fun g1 cap w3 hown3 hgr3 hor3 hlt3 => ?_)))
              go_roundg (gk - 1)
              case measure => omega
              case rel => exact ⟨i + 1, l ++ [s[i]], by go_num, by omega, by omega, Lib.hid (by rw [cells_snoc, List.length_append]; exact hown3), Lib.hid (by have := HLL.out; simp; omega), HINV, Lib.hid ((((Chg.of_below (M := fun k => w.heap.size ≤ k) hbel.out).alloc _).grown hgr3 (fun k hk => .inr (HO.out.lt k hk).1)).below (fun k hk h => by omega))⟩
      · have hinv := HRR.out
        rw [List.drop_eq_nil_of_le (by rw [bys_len]; omega)] at hinv
        obtain rfl : R = none := hinv.symm
        have hc1 : decide (i < s.size) = false := decide_eq_false hi
        clear hinv
        go_wp2
        refine bodyPost_ret (v := .tuple #[.string ⟨#[]⟩, .string ⟨#[]⟩, .bool false]) (by simp [results, Tryd.results44, go_sem]) rfl ?_
        exact ⟨rfl, hbel.out⟩
  · have hc : ((s[0].toNat : Int) != 34) = true := by simp; omega
    have hr := HR.out
    rw [hu] at hr
    change (if s[0].toNat = 34 then uq _ else none) = R at hr
    rw [if_neg hq] at hr
    obtain rfl : R = none := hr.symm
    clear hr hq hu hg0 HR h1
    go_enter Tryd.func44, Tryd.ntmps44
    go_wp2
    refine bodyPost_ret (v := .tuple #[.string ⟨#[]⟩, .string ⟨#[]⟩, .bool false]) (by simp [results, Tryd.results44, go_sem]) rfl ?_
    exact ⟨rfl, Below.refl _ _⟩
end Go.Proofs.YtmlmnckhiianhaaDoor
