/- MatchReads, walked. -/
import Derived.Test.YtmlmnckhiianhaaDoorMaM
import Derived.Test.YtmlmnckhiianhaaDoorMaT
import Derived.Test.YtmlmnckhiianhaaDoorMaW
namespace Go.Proofs.YtmlmnckhiianhaaDoor
open Go.RowKit Go.Sort
set_option linter.unusedVariables false
set_option linter.unusedSimpArgs false

/-- What Parse answers, in two ways. -/
theorem mparse_two (s : ByteArray) (hs : s.size ≤ 1000000) (w : World) (ho : Ops w) : Calls Tryd.prog 14 #[.string s] w fun e w' =>
    ((∃ k : Int, k ≠ 0 ∧ e = .returned (.tuple #[.pointer none, .int .i64 k])) ∨ (∃ g l, e = .returned (.tuple #[.pointer (some ⟨g, 0, none⟩), .int .i64 0]) ∧ Sel w' g l ∧ bys s = printAll (l.map toMat) ∧ checkErr (l.map toMat) = 0)) ∧ Below w.heap.size w w' :=
  (mparse_calls s hs w ho).mono fun e w' ⟨h, hb⟩ => ⟨by
    unfold MPRes at h
    cases hR : parseM (bys s) with
    | none => rw [hR] at h; exact .inl ⟨6, by decide, h⟩
    | some L =>
      rw [hR] at h
      rcases h with ⟨h1, h2⟩ | ⟨h1, g, l, h2, h3, h4⟩
      · exact .inl ⟨_, by exact_mod_cast h1, h2⟩
      · exact .inr ⟨g, l, h2, h3, by rw [h4]; exact parseM_back hR, by rw [h4]; exact h1⟩, hb⟩

theorem mat_ops {m : SM} (h : matErr (toMat m) = 0) : 0 ≤ m.op ∧ m.op < 4 := by
  unfold matErr at h
  by_cases ho : (toMat m).op < 0 ∨ 3 < (toMat m).op
  · rw [if_pos ho] at h; cases h
  · have : (toMat m).op = m.op := rfl
    omega
theorem Tryd.infoRefM2 : (Tryd.prog.info? 28).map (fun i => (i.zero, i.size, i.bytes)) = some (some (.agg #[.string ⟨#[]⟩, .int .i64 0, .string ⟨#[]⟩]), 3, 40) := by kernel_rfl

set_option maxRecDepth 100000 in
set_option maxHeartbeats 2000000 in
theorem reads_calls (s : ByteArray) (w : World) (ho : Ops w) : Calls Tryd.prog 6 #[.string s] w fun e w' => e = .returned (.bool true) ∧ Below w.heap.size w w' := by
  obtain ⟨i0, hinf, hz0, hz1, hz2⟩ := info_parts Tryd.infoRefM2
  by_cases h5 : 500 < s.size
  · have hd : decide ((500 : Int) < (s.size : Int)) = true := decide_eq_true (by omega)
    go_enter Tryd.func6, Tryd.ntmps6
    go_wp2_with (go_at_call 10; (fail_if_success (have := hbW)); ((refine (awake12_calls _ ho).mono ?_); rintro e w9 ⟨rfl, hbW⟩))
    go_ret
    exact ⟨rfl, hbW⟩
  · have hd : decide ((500 : Int) < (s.size : Int)) = false := decide_eq_false (by omega)
    have HPA := Lib.hid (mparse_two s (by omega) w ho)
    go_enter Tryd.func6, Tryd.ntmps6
    go_wp2_with (first | (go_at_call 14; (fail_if_success (have := hbP)); ((refine (HPA.out).mono ?_); rintro e w3 ⟨⟨k, hk, rfl⟩ | ⟨g, l, rfl, hsel, hbs, hce⟩, hbP⟩)) | (go_at_call 10; (fail_if_success (have := hbW)); ((refine (awake12_calls _ (ho.below hbP)).mono ?_); rintro e w9 ⟨rfl, hbW⟩)))
    · go_ret
      exact ⟨rfl, below_thn hbP hbW⟩
    · have hl16 : l.length ≤ 16 := by
        have := (checkErr_ok.1 hce).1
        rw [List.length_map] at this; exact this
      have HS := Lib.hid hsel
      have HBS := Lib.hid hbs
      have HCE := Lib.hid hce
      clear hsel hbs hce
      go_wp2_with (go_at_call 15; (fail_if_success (have := hbM)); ((refine (matchers_calls g l _ HS.out (by omega)).mono ?_); rintro e w4 ⟨v, rfl, hv, hbM⟩; obtain ⟨A, c, rfl, hn2, hm⟩ := hv; have HM := Lib.hid hm; clear hm; have HB4 := Lib.hid (below_thn hbP hbM)))
      go_loopg [5, 29] (l.length + 1) (fun k u5 u29 wr => ∃ (i : Nat), u29 = .int .i64 (i : Int) ∧ i + k = l.length + 1 ∧ i ≤ l.length ∧ Hid (wr.ownsRow w4.heap.size 28 3 u5 i (flatM (l.take i))) ∧ Hid (Below w4.heap.size w4 wr))
      case atStart => exact ⟨0, rfl, by omega, by omega, Lib.hid ⟨rfl, .inl ⟨rfl, rfl⟩⟩, Lib.hid (Below.refl _ _)⟩
      case round =>
        obtain ⟨i, rfl, hik, hil, HO, hbel⟩ := hrel
        obtain ⟨wo, rfl⟩ : ∃ m : World, m = wr := ⟨_, rfl⟩
        by_cases hi : i < l.length
        · have hc1 : decide (i < l.length) = true := decide_eq_true hi
          have hc2 : (i : Int) < (l.length : Int) := by omega
          have hc3 : (0 : Int) ≤ (i : Int) := by omega
          obtain ⟨x, hxl⟩ : ∃ x, l[i]? = some x := ⟨_, List.getElem?_eq_getElem hi⟩
          obtain ⟨g1, o, rfl, hrg⟩ := HM.out i x hxl
          have HRG := Lib.hid (rangeAt_below hrg hbel.out)
          have HTK := Lib.hid (show flatM (l.take (i + 1)) = flatM (l.take i) ++ [.string x.name, .int .i64 x.op, .string x.value] by rw [List.take_add_one, hxl]; exact flatM_snoc _ _)
          have HNW := Lib.hid (blk_range (cs := [.string x.name, .int .i64 x.op, .string x.value]) (blk_new wo (.cells #[.string x.name, .int .i64 x.op, .string x.value] 36)))
          have HZW := Lib.hid hbel.out.size
          clear hrg hxl
          unfold smCells at HRG
          go_wp2_with (first | (refine wpList_load_mid rfl _ (.tmp 31) rfl g1 (o + i * 3) rfl _ _ HRG.out Tryd.underlying36 rfl (by kernel_rfl) ?_) | (refine wpList_load_mid rfl _ (.tmp 7) rfl wo.heap.size 0 rfl _ _ (by exact HNW.out) Tryd.underlying36 rfl (by kernel_rfl) ?_) | (at_builtin; go_loud (refine wpList_append_lies _ rfl (.tmp 33) (.tmp 35) 22 rfl w4.heap.size 28 i0 (.agg #[.string ⟨#[]⟩, .int .i64 0, .string ⟨#[]⟩]) 3 40 Tryd.underlying22 hinf hz0 hz1 hz2 rfl (by decide) u5 i (flatM (l.take i)) rfl (by exact (HO.out.alloc _).alloc _) ⟨_, 0, none⟩ 1 1 [.string x.name, .int .i64 x.op, .string x.value] rfl rfl (by exact World.news_of_block (blk_new' _ _ _ (by simp))) (fun u hu => by simp at hu; rcases hu with rfl | rfl | rfl <;> rfl) (by decide) (by unfold maxLen; omega) (by omega) (by have := HZW.out; simp; omega) _ rfl (fun g2 cap w5 hown5 hgr5 hor5 hlt5 => ?_))))
          go_roundg (gk - 1)
          case measure => omega
          case rel => exact ⟨i + 1, by go_num, by omega, by omega, Lib.hid (by rw [HTK.out]; exact hown5), Lib.hid ((((Chg.of_below (M := fun k => w4.heap.size ≤ k) hbel.out).alloc _).alloc _ |>.grown hgr5 (fun k hk => .inr (HO.out.lt k hk).1)).below (fun k hk h => by omega))⟩
        · have hc1 : decide (i < l.length) = false := decide_eq_false hi
          obtain rfl : i = l.length := by omega
          have HR := Lib.hid (show MS wo u5 l from MS.of_row (by have := HO.out; rw [List.take_of_length_le (Nat.le_refl _)] at this; exact this) hn2)
          have HBO := Lib.hid (below_thn HB4.out hbel.out)
          have HOP := Lib.hid (show ∀ m, m ∈ l → 0 ≤ m.op ∧ m.op < 4 from fun m hm => mat_ops ((checkErr_ok.1 HCE.out).2 _ (List.mem_map.2 ⟨m, hm, rfl⟩)))
          have HPT := Lib.hid (show (printAll (l.map toMat)).length ≤ 4611686018427387904 by rw [← HBS.out, bys_len]; omega)
          obtain ⟨uA, uc, rfl, -, -⟩ := HR.out
          go_wp2_with (first | (go_at_call 10; (fail_if_success (have := hbW)); ((refine (awake12_calls _ (ho.below HBO.out)).mono ?_); rintro e w9 ⟨rfl, hbW⟩)) | (go_at_call 9; (fail_if_success (have := hbK)); ((refine (check_calls _ l _ (HR.out.below hbW)).mono ?_); rintro e w6 ⟨rfl, hbK⟩; rw [HCE.out])) | (go_at_call 16; (fail_if_success (have := hbT)); ((refine (print_calls _ l _ ((HR.out.below hbW).below hbK) HOP.out HPT.out).mono ?_); rintro e w7 ⟨q, rfl, hq, hbT⟩; obtain rfl : q = s := bys_inj.1 (hq.trans HBS.out.symm); clear hq)))
          go_ret
          exact ⟨rfl, below_thn (below_thn (below_thn HBO.out hbW) hbK) hbT⟩
end Go.Proofs.YtmlmnckhiianhaaDoor
