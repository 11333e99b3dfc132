/- Parse: a selector of a text, walked. -/
import Derived.Test.YtmlmnckhiianhaaDoorMaR
import Derived.Test.YtmlmnckhiianhaaDoorMaJ
namespace Go.Proofs.YtmlmnckhiianhaaDoor
open Go.RowKit
set_option linter.unusedVariables false
set_option linter.unusedSimpArgs false

theorem uq_mem : ∀ (n : Nat) (u : List Nat) (p : List Nat × List Nat), u.length ≤ n → uq u = some p → ∀ b, b ∈ p.2 → b ∈ u
  | 0, u, p, hn, h => by
    have : u = [] := List.length_eq_zero_iff.1 (by omega)
    subst this; simp [uq] at h
  | n + 1, [], p, hn, h => by simp [uq] at h
  | n + 1, [c], p, hn, h => by
    unfold uq at h
    split at h
    · injection h with h; subst h; simp
    · cases h
  | n + 1, c :: d :: q, p, hn, h => by
    unfold uq at h
    simp at hn
    split at h
    · injection h with h; subst h; intro b hb; exact List.mem_cons_of_mem _ hb
    · split at h
      · cases h
      · split at h
        · split at h
          · obtain ⟨y, hy, rfl⟩ := Option.map_eq_some_iff.1 h
            intro b hb
            exact List.mem_cons_of_mem _ (List.mem_cons_of_mem _ (uq_mem n q y (by omega) hy b hb))
          · split at h
            · obtain ⟨y, hy, rfl⟩ := Option.map_eq_some_iff.1 h
              intro b hb
              exact List.mem_cons_of_mem _ (List.mem_cons_of_mem _ (uq_mem n q y (by omega) hy b hb))
            · cases h
        · obtain ⟨y, hy, rfl⟩ := Option.map_eq_some_iff.1 h
          intro b hb
          exact List.mem_cons_of_mem _ (uq_mem n (d :: q) y (by simp; omega) hy b hb)
theorem unquote_mem {u : List Nat} {p : List Nat × List Nat} (h : unquote u = some p) : ∀ b, b ∈ p.2 → b ∈ u := by
  cases u with
  | nil => simp [unquote] at h
  | cons c r =>
    change (if c = 34 then uq r else none) = some p at h
    by_cases hc : c = 34
    · rw [if_pos hc] at h
      intro b hb
      exact List.mem_cons_of_mem _ (uq_mem _ r p (Nat.le_refl _) h b hb)
    · rw [if_neg hc] at h; cases h
theorem oneP_mem {u : List Nat} {p : Mat × List Nat} (h : oneP u = some p) : ∀ b, b ∈ p.2 → b ∈ u := by
  unfold oneP at h
  split at h
  · cases h
  · obtain ⟨y, hy, rfl⟩ := Option.map_eq_some_iff.1 h
    intro b hb
    have := unquote_mem hy b hb
    rw [dropWhile_len] at this
    exact List.mem_of_mem_drop (List.mem_of_mem_drop this)
/-- What Parse answers. -/
def MPRes (s : ByteArray) (e : Ending) (w : World) : Prop := match parseM (bys s) with
  | none => e = .returned (.tuple #[.pointer none, .int .i64 6])
  | some L => (checkErr L ≠ 0 ∧ e = .returned (.tuple #[.pointer none, .int .i64 (checkErr L)])) ∨ (checkErr L = 0 ∧ ∃ g l, e = .returned (.tuple #[.pointer (some ⟨g, 0, none⟩), .int .i64 0]) ∧ Sel w g l ∧ l.map toMat = L)
theorem trim_brace {s : ByteArray} {c : UInt8} (h : Lib.hasPrefix s.data.toList [c] = true) : ∃ r : List UInt8, s.data.toList = c :: r ∧ Lib.trimPrefix s.data.toList [c] = r := by
  unfold Lib.trimPrefix
  rw [if_pos h]
  unfold Lib.hasPrefix at h
  cases hl : s.data.toList with
  | nil => rw [hl] at h; cases h
  | cons a l =>
    rw [hl] at h
    simp only [List.isPrefixOf, Bool.and_true, beq_iff_eq] at h
    subst h
    exact ⟨l, rfl, rfl⟩

set_option maxRecDepth 100000 in
set_option maxHeartbeats 1000000 in
theorem mparse_calls (s : ByteArray) (hs : s.size ≤ 1000000) (w : World) (ho : Ops w) : Calls Tryd.prog 14 #[.string s] w fun e w' => MPRes s e w' ∧ Below w.heap.size w w' := by
  obtain ⟨i0, hinf, hz0, hz1, hz2⟩ := info_parts Tryd.infoMat
  have HCP := Lib.hid (strings_CutPrefix s ⟨#[123]⟩)
  obtain ⟨R, hR⟩ : ∃ R, parseM (bys s) = R := ⟨_, rfl⟩
  unfold MPRes
  rw [hR]
  cases hp : Lib.hasPrefix s.data.toList [123] with
  | false =>
    have HP := Lib.hid hp
    obtain rfl : R = none := by
      rw [← hR]
      unfold Lib.hasPrefix at hp
      unfold parseM bys
      cases hl : s.data.toList with
      | nil => rfl
      | cons a l =>
        rw [hl] at hp
        simp only [List.isPrefixOf, Bool.and_true] at hp
        have hne : a.toNat ≠ 123 := fun e => by
          have : a = 123 := UInt8.toNat_inj.1 e
          rw [this] at hp; cases hp
        rw [List.map_cons]
        split
        · rename_i h; injection h with h1 h2; exact absurd h1 hne
        · rfl
    clear hR hp
    go_enter Tryd.func14, Tryd.ntmps14
    go_wp2_with (go_at_call 26; (fail_if_success (have := HQ1)); ((refine (HCP.out _).mono ?_); rintro e w3 ⟨rfl, hcut⟩; have hcut2 := hcut.symm; subst hcut2; clear hcut; have HQ1 := HP; rw [HP.out]))
    refine bodyPost_ret (v := .tuple #[.pointer none, .int .i64 6]) (by simp [results, Tryd.results14, go_sem]) rfl ?_
    exact ⟨rfl, Below.refl _ _⟩
  | true =>
    obtain ⟨r, hr1, hr2⟩ := trim_brace hp
    have HP := Lib.hid hp
    have HR2 := Lib.hid hr2
    have hsr : bys s = 123 :: r.map UInt8.toNat := by unfold bys; rw [hr1]; rfl
    have hrl : r.length + 1 = s.size := by rw [← bys_len, hsr]; simp
    have hR2 : parseL (r.length + 1) [] (r.map UInt8.toNat) = R := by rw [← hR, hsr]; unfold parseM; simp
    have HR := Lib.hid hR2
    have HM0 := Lib.hid (show ∀ b, b ∈ bys ⟨r.toArray⟩ → b ∈ bys s from fun b hb => by rw [hsr]; rw [bys_mk] at hb; exact List.mem_cons_of_mem _ hb)
    clear hR hp hr1 hr2 hR2
    go_enter Tryd.func14, Tryd.ntmps14
    go_wp2_with (go_at_call 26; (fail_if_success (have := HQ1)); ((refine (HCP.out _).mono ?_); rintro e w3 ⟨rfl, hcut⟩; have hcut2 := hcut.symm; subst hcut2; clear hcut; have HQ1 := HP; rw [HP.out, HR2.out]))
    go_loopg [4, 6] (r.length + 1) (fun k u4 u6 wr => ∃ (rest : ByteArray) (l : List SM), u4 = .string rest ∧ rest.size < k ∧ Hid (wr.ownsRow w.heap.size 36 3 u6 l.length (flatM l)) ∧ Hid (l.length + rest.size ≤ s.size) ∧ Hid (parseL k (l.map toMat) (bys rest) = R) ∧ Hid (∀ b, b ∈ bys rest → b ∈ bys s) ∧ Hid (Below w.heap.size w wr))
    case atStart => exact ⟨⟨r.toArray⟩, [], rfl, by rw [← bys_len, bys_mk, List.length_map]; omega, Lib.hid ⟨rfl, .inl ⟨rfl, rfl⟩⟩, Lib.hid (by rw [← bys_len ⟨r.toArray⟩, bys_mk, List.length_map]; simp; omega), Lib.hid (by rw [bys_mk]; exact HR.out), HM0, Lib.hid (Below.refl _ _)⟩
    case round =>
      obtain ⟨rest, l, rfl, hrk, HO, HSZ, HRR, HMM, hbel⟩ := hrel
      obtain ⟨wo, rfl⟩ : ∃ m : World, m = wr := ⟨_, rfl⟩
      obtain ⟨lA, lN, lC, rfl⟩ : ∃ A n c, u6 = .slice A n c := own_sl HO.out
      obtain rfl : lN = l.length := by
        rcases HO.out.2 with ⟨h1, h2⟩ | ⟨g, cap, cur, h1, _⟩
        · injection h1 with _ h1 _; omega
        · injection h1
      have HLL := Lib.hid (show l.length ≤ 1000000 by have := HSZ.out; omega)
      have HLT := Lib.hid (show ∀ k, (Value.slice lA l.length lC).ownBlock = some k → k ≠ wo.heap.size from fun k hk => by have := (HO.out.lt k hk).2; omega)
      obtain ⟨m, rfl⟩ : ∃ m, gk = m + 1 := ⟨gk - 1, by omega⟩
      obtain ⟨E, hE⟩ : ∃ E : Bool, (rest.toList == [125]) = E := ⟨_, rfl⟩
      have hEB : E = decide (bys rest = [125]) := by
        rw [← hE]
        have e1 : (bys rest = [125]) ↔ rest = ⟨#[125]⟩ := bys_inj (t := ⟨#[125]⟩)
        have e2 := str_eq rest ⟨#[125]⟩
        have e3 : (⟨#[125]⟩ : ByteArray).toList = [125] := by rw [ByteArray.toList_eq]
        rw [e3] at e2
        rw [← e2]
        exact decide_eq_decide.2 e1.symm
      cases E with
      | true =>
        have hend : bys rest = [125] := of_decide_eq_true hEB.symm
        have hst := HRR.out
        unfold parseL at hst
        rw [if_pos hend] at hst
        have HRV := Lib.hid hst.symm
        clear hst hend hEB HR HRR HM0
        obtain rfl : R = some (l.map toMat) := HRV.out
        go_wp2_with (go_at_call 11; (fail_if_success (have := hbN)); ((refine (new_calls _ l _ (MS.of_row HO.out (by have := HLL.out; omega))).mono ?_); rintro e w5 ⟨hbN, ⟨hne, rfl⟩ | ⟨h0, g, rfl, hsel⟩⟩))
        · refine bodyPost_ret (v := .tuple #[.pointer none, .int .i64 (checkErr (l.map toMat))]) (by simp [results, Tryd.results14, go_sem]) rfl ?_
          exact ⟨rfl, below_thn hbel.out hbN⟩
        · refine bodyPost_ret (v := .tuple #[.pointer (some ⟨g, 0, none⟩), .int .i64 0]) (by simp [results, Tryd.results14, go_sem]) rfl ?_
          exact ⟨⟨g, rfl, l, hsel, rfl⟩, below_thn hbel.out hbN⟩
      | false =>
        have hend : ¬ bys rest = [125] := of_decide_eq_false hEB.symm
        have hst := HRR.out
        unfold parseL at hst
        rw [if_neg hend] at hst
        clear hend hEB HR HRR HM0
        by_cases hl0 : l.length = 0
        · have hle : (l.map toMat).isEmpty = true := by rw [List.length_eq_zero_iff.1 hl0]; rfl
          have hgt : decide (0 < l.length) = false := decide_eq_false (by omega)
          rw [if_pos hle] at hst
          clear hle hl0
          cases hon : oneP (bys rest) with
          | none =>
            have HON := Lib.hid hon
            obtain rfl : R = none := by rw [← hst, hon]
            clear hon hst
            go_wp2_with (first |  (go_at_call 27; (fail_if_success (have := hbO)); ((refine (mone_calls rest (by have := HSZ.out; omega) _ ((ho.below hbel.out).below (Below.alloc (Below.refl _ _) (Nat.le_refl _) _))).mono ?_); rintro e w5 ⟨hres, hbO⟩; unfold MOneRes at hres; rw [show bys rest = bys rest from rfl, HON.out] at hres; obtain ⟨ma, mb, mc, mr, rfl⟩ := hres; have HB5 := Lib.hid (blk_below hbO (blk_new wo _)); have y0 := blk_free (o := 0) HB5.out; have y1 := blk_free (o := 1) HB5.out; have y2 := blk_free (o := 2) HB5.out; have y3 : w5.cell? ⟨wo.heap.size, 0, none⟩ = some (.string ⟨#[]⟩) := (blk_cell HB5.out).trans rfl; have y4 : w5.cell? ⟨wo.heap.size, 1, none⟩ = some (.int .i64 0) := (blk_cell HB5.out).trans rfl; have y5 : w5.cell? ⟨wo.heap.size, 2, none⟩ = some (.string ⟨#[]⟩) := (blk_cell HB5.out).trans rfl)))
            refine bodyPost_ret (v := .tuple #[.pointer none, .int .i64 6]) (by simp [results, Tryd.results14, go_sem]) rfl ?_
            exact ⟨rfl, (Chg.setCell (Chg.setCell (Chg.setCell (Chg.of_below (M := fun k => w.heap.size ≤ k) (below_thn (below_thn hbel.out (Below.alloc (Below.refl _ _) (Nat.le_refl _) _)) hbO)) (.inl (by have := hbel.out.size; simp; omega)) _) (.inl (by have := hbel.out.size; simp; omega)) _) (.inl (by have := hbel.out.size; simp; omega)) _).below (fun k hk h => by omega)⟩
          | some p =>
            have HON := Lib.hid hon
            rw [hon] at hst
            have HST := Lib.hid hst
            have hpl := oneP_len hon
            have hpm := oneP_mem hon
            have HPM := Lib.hid hpm
            have HPL := Lib.hid hpl
            clear hon hst hpl hpm
            go_wp2_with (first |  (go_at_call 27; (fail_if_success (have := hbO)); ((refine (mone_calls rest (by have := HSZ.out; omega) _ ((ho.below hbel.out).below (Below.alloc (Below.refl _ _) (Nat.le_refl _) _))).mono ?_); rintro e w5 ⟨hres, hbO⟩; unfold MOneRes at hres; rw [show bys rest = bys rest from rfl, HON.out] at hres; obtain ⟨ma, mc, mr, rfl, ha1, ha2, ha3⟩ := hres; have HA := Lib.hid (And.intro ha1 (And.intro ha2 ha3)); clear ha1 ha2 ha3; have HB5 := Lib.hid (blk_below hbO (blk_new wo _)); have y0 := blk_free (o := 0) HB5.out; have y1 := blk_free (o := 1) HB5.out; have y2 := blk_free (o := 2) HB5.out; have y3 : w5.cell? ⟨wo.heap.size, 0, none⟩ = some (.string ⟨#[]⟩) := (blk_cell HB5.out).trans rfl; have y4 : w5.cell? ⟨wo.heap.size, 1, none⟩ = some (.int .i64 0) := (blk_cell HB5.out).trans rfl; have y5 : w5.cell? ⟨wo.heap.size, 2, none⟩ = some (.string ⟨#[]⟩) := (blk_cell HB5.out).trans rfl; have HWF : Hid ((((w5.setCell ⟨wo.heap.size, 0, none⟩ (.string ma)).setCell ⟨wo.heap.size, 1, none⟩ (.int .i64 p.1.op)).setCell ⟨wo.heap.size, 2, none⟩ (.string mc)).heap[wo.heap.size]? = some (.cells #[.string ma, .int .i64 p.1.op, .string mc] 36 (0, 0))) := Lib.hid ((blk_set (blk_set (blk_set HB5.out (.string ma)) (.int .i64 p.1.op)) (.string mc)).trans rfl); have HOW : Hid ((((w5.setCell ⟨wo.heap.size, 0, none⟩ (.string ma)).setCell ⟨wo.heap.size, 1, none⟩ (.int .i64 p.1.op)).setCell ⟨wo.heap.size, 2, none⟩ (.string mc)).ownsRow w.heap.size 36 3 (.slice lA l.length lC) l.length (flatM l)) := Lib.hid (ownsRow_of HO.out (fun k hk => (((Below.heap_setCell _ _ _ _ (HLT.out k hk)).trans ((Below.heap_setCell _ _ _ _ (HLT.out k hk)).trans (Below.heap_setCell _ _ _ _ (HLT.out k hk)))).trans (hbO.block k (by have := (HO.out.lt k hk).2; simp; omega))).trans (Below.heap_alloc _ _ k (HO.out.lt k hk).2))); have HSW : Hid (w.heap.size ≤ (((w5.setCell ⟨wo.heap.size, 0, none⟩ (.string ma)).setCell ⟨wo.heap.size, 1, none⟩ (.int .i64 p.1.op)).setCell ⟨wo.heap.size, 2, none⟩ (.string mc)).heap.size) := Lib.hid (by rw [size_set, size_set, size_set]; have := hbel.out.size; have h5 := hbO.size; simp at h5; omega))) | (refine wpList_load_mid rfl _ (.tmp 7) rfl wo.heap.size 0 rfl _ _ (by exact blk_range (cs := [.string ma, .int .i64 p.1.op, .string mc]) HWF.out) Tryd.underlying36 rfl (by kernel_rfl) ?_) | (at_builtin; go_loud (refine wpList_append_lies _ rfl (.tmp 35) (.tmp 37) 33 rfl w.heap.size 36 i0 (.agg #[.string ⟨#[]⟩, .int .i64 0, .string ⟨#[]⟩]) 3 40 Tryd.underlying33 hinf hz0 hz1 hz2 rfl (by decide) (.slice lA l.length lC) l.length (flatM l) rfl (by exact HOW.out.alloc _) ⟨_, 0, none⟩ 1 1 [.string ma, .int .i64 p.1.op, .string mc] rfl rfl (by exact World.news_of_block (blk_new' _ _ _ (by simp [size_set]))) (fun u hu => by simp at hu; rcases hu with rfl | rfl | rfl <;> rfl) (by decide) (by have := HLL.out; unfold maxLen; omega) (by have := HLL.out; omega) (by have := HSW.out; simp at this; simp; omega) _ rfl (fun g1 cap w6 hown6 hgr6 hor6 hlt6 => ?_))))
            go_roundg m
            case measure => omega
            case rel => exact ⟨mr, l ++ [⟨ma, p.1.op, mc⟩], rfl, (by have h3 := HPL.out; have h4 := congrArg List.length HA.out.2.2; rw [bys_len] at h4; rw [bys_len rest] at h3; omega), Lib.hid (by rw [flatM_snoc, List.length_append]; exact hown6), Lib.hid (by rw [List.length_append]; have h3 := HPL.out; have h4 := congrArg List.length HA.out.2.2; rw [bys_len] at h4; rw [bys_len rest] at h3; have := HSZ.out; simp; omega), Lib.hid (by rw [List.map_append, show [SM.mk ma p.1.op mc].map toMat = [p.1] from (by have h1 := HA.out.1; have h2 := HA.out.2.1; unfold toMat; simp only [List.map_cons, List.map_nil]; rw [h1, h2]), HA.out.2.2]; exact HST.out), Lib.hid (fun b hb => by rw [HA.out.2.2] at hb; exact HMM.out b (HPM.out b hb)), Lib.hid (((((((Chg.of_below (M := fun k => w.heap.size ≤ k) (below_thn (below_thn hbel.out (Below.alloc (Below.refl _ _) (Nat.le_refl _) _)) hbO)).setCell (.inl (by have := hbel.out.size; simp; omega)) _).setCell (.inl (by have := hbel.out.size; simp; omega)) _).setCell (.inl (by have := hbel.out.size; simp; omega)) _).alloc _).grown hgr6 (fun k hk => .inl (by have := (HO.out.lt k hk).1; omega))).below (fun k hk h => by omega))⟩
        · have hle : ¬ (l.map toMat).isEmpty = true := by simp; exact fun e => hl0 (by rw [e]; rfl)
          rw [if_neg hle] at hst
          have hgt : decide (0 < l.length) = true := decide_eq_true (by omega)
          have HCP2 := Lib.hid (strings_CutPrefix rest ⟨#[44]⟩)
          clear hle hl0
          cases hcc : Lib.hasPrefix rest.data.toList [44] with
          | false =>
            have HCC := Lib.hid hcc
            obtain rfl : R = none := by
              rw [← hst]
              unfold Lib.hasPrefix at hcc
              unfold bys
              cases hl : rest.data.toList with
              | nil => rfl
              | cons a l =>
                rw [hl] at hcc
                simp only [List.isPrefixOf, Bool.and_true] at hcc
                have hne : a.toNat ≠ 44 := fun e => by
                  have : a = 44 := UInt8.toNat_inj.1 e
                  rw [this] at hcc; cases hcc
                rw [List.map_cons]
                split
                · rename_i h; injection h with h1 h2; exact absurd h1 hne
                · rfl
            clear hst hcc
            go_wp2_with (go_at_call 26; (fail_if_success (have := HQ2)); ((refine (HCP2.out _).mono ?_); rintro e w3 ⟨rfl, hcut⟩; have hcut2 := hcut.symm; subst hcut2; clear hcut; have HQ2 := HCC; rw [HCC.out]))
            refine bodyPost_ret (v := .tuple #[.pointer none, .int .i64 6]) (by simp [results, Tryd.results14, go_sem]) rfl ?_
            exact ⟨rfl, hbel.out⟩
          | true =>
            obtain ⟨q, hq1, hq2⟩ := trim_brace hcc
            have HCC := Lib.hid hcc
            have HR3 := Lib.hid hq2
            have hbq : bys rest = 44 :: q.map UInt8.toNat := by unfold bys; rw [hq1]; rfl
            rw [hbq] at hst
            have HQL : Hid (rest.size = q.length + 1 ∧ (⟨q.toArray⟩ : ByteArray).size = q.length) := Lib.hid ⟨by rw [← bys_len, hbq]; simp, by rw [← bys_len, bys_mk]; simp⟩
            have HQM : Hid (∀ b, b ∈ q.map UInt8.toNat → b ∈ bys rest) := Lib.hid (fun b hb => by rw [hbq]; exact List.mem_cons_of_mem _ hb)
            simp only at hst
            clear hbq hq1 hq2 hcc
            cases hon : oneP (q.map UInt8.toNat) with
            | none =>
              have HON := Lib.hid hon
              obtain rfl : R = none := by rw [← hst, hon]
              clear hon hst
              go_wp2_with (first | (go_at_call 26; (fail_if_success (have := HQ2)); ((refine (HCP2.out _).mono ?_); rintro e w3 ⟨rfl, hcut⟩; have hcut2 := hcut.symm; subst hcut2; clear hcut; have HQ2 := HCC; rw [HCC.out, HR3.out])) | (go_at_call 27; (fail_if_success (have := hbO)); ((refine (mone_calls ⟨q.toArray⟩ (by have := HSZ.out; have := HQL.out; omega) _ ((ho.below hbel.out).below (Below.alloc (Below.refl _ _) (Nat.le_refl _) _))).mono ?_); rintro e w5 ⟨hres, hbO⟩; unfold MOneRes at hres; rw [bys_mk, HON.out] at hres; obtain ⟨ma, mb, mc, mr, rfl⟩ := hres; have HB5 := Lib.hid (blk_below hbO (blk_new wo _)); have y0 := blk_free (o := 0) HB5.out; have y1 := blk_free (o := 1) HB5.out; have y2 := blk_free (o := 2) HB5.out; have y3 : w5.cell? ⟨wo.heap.size, 0, none⟩ = some (.string ⟨#[]⟩) := (blk_cell HB5.out).trans rfl; have y4 : w5.cell? ⟨wo.heap.size, 1, none⟩ = some (.int .i64 0) := (blk_cell HB5.out).trans rfl; have y5 : w5.cell? ⟨wo.heap.size, 2, none⟩ = some (.string ⟨#[]⟩) := (blk_cell HB5.out).trans rfl)))
              refine bodyPost_ret (v := .tuple #[.pointer none, .int .i64 6]) (by simp [results, Tryd.results14, go_sem]) rfl ?_
              exact ⟨rfl, (Chg.setCell (Chg.setCell (Chg.setCell (Chg.of_below (M := fun k => w.heap.size ≤ k) (below_thn (below_thn hbel.out (Below.alloc (Below.refl _ _) (Nat.le_refl _) _)) hbO)) (.inl (by have := hbel.out.size; simp; omega)) _) (.inl (by have := hbel.out.size; simp; omega)) _) (.inl (by have := hbel.out.size; simp; omega)) _).below (fun k hk h => by omega)⟩
            | some p =>
              have HON := Lib.hid hon
              rw [hon] at hst
              have HST := Lib.hid hst
              have hpl := oneP_len hon
              have hpm := oneP_mem hon
              have HPM := Lib.hid hpm
              have HPL := Lib.hid hpl
              clear hon hst hpl hpm
              go_wp2_with (first | (go_at_call 26; (fail_if_success (have := HQ2)); ((refine (HCP2.out _).mono ?_); rintro e w3 ⟨rfl, hcut⟩; have hcut2 := hcut.symm; subst hcut2; clear hcut; have HQ2 := HCC; rw [HCC.out, HR3.out])) | (go_at_call 27; (fail_if_success (have := hbO)); ((refine (mone_calls ⟨q.toArray⟩ (by have := HSZ.out; have := HQL.out; omega) _ ((ho.below hbel.out).below (Below.alloc (Below.refl _ _) (Nat.le_refl _) _))).mono ?_); rintro e w5 ⟨hres, hbO⟩; unfold MOneRes at hres; rw [bys_mk, HON.out] at hres; obtain ⟨ma, mc, mr, rfl, ha1, ha2, ha3⟩ := hres; have HA := Lib.hid (And.intro ha1 (And.intro ha2 ha3)); clear ha1 ha2 ha3; have HB5 := Lib.hid (blk_below hbO (blk_new wo _)); have y0 := blk_free (o := 0) HB5.out; have y1 := blk_free (o := 1) HB5.out; have y2 := blk_free (o := 2) HB5.out; have y3 : w5.cell? ⟨wo.heap.size, 0, none⟩ = some (.string ⟨#[]⟩) := (blk_cell HB5.out).trans rfl; have y4 : w5.cell? ⟨wo.heap.size, 1, none⟩ = some (.int .i64 0) := (blk_cell HB5.out).trans rfl; have y5 : w5.cell? ⟨wo.heap.size, 2, none⟩ = some (.string ⟨#[]⟩) := (blk_cell HB5.out).trans rfl; have HWF : Hid ((((w5.setCell ⟨wo.heap.size, 0, none⟩ (.string ma)).setCell ⟨wo.heap.size, 1, none⟩ (.int .i64 p.1.op)).setCell ⟨wo.heap.size, 2, none⟩ (.string mc)).heap[wo.heap.size]? = some (.cells #[.string ma, .int .i64 p.1.op, .string mc] 36 (0, 0))) := Lib.hid ((blk_set (blk_set (blk_set HB5.out (.string ma)) (.int .i64 p.1.op)) (.string mc)).trans rfl); have HOW : Hid ((((w5.setCell ⟨wo.heap.size, 0, none⟩ (.string ma)).setCell ⟨wo.heap.size, 1, none⟩ (.int .i64 p.1.op)).setCell ⟨wo.heap.size, 2, none⟩ (.string mc)).ownsRow w.heap.size 36 3 (.slice lA l.length lC) l.length (flatM l)) := Lib.hid (ownsRow_of HO.out (fun k hk => (((Below.heap_setCell _ _ _ _ (HLT.out k hk)).trans ((Below.heap_setCell _ _ _ _ (HLT.out k hk)).trans (Below.heap_setCell _ _ _ _ (HLT.out k hk)))).trans (hbO.block k (by have := (HO.out.lt k hk).2; simp; omega))).trans (Below.heap_alloc _ _ k (HO.out.lt k hk).2))); have HSW : Hid (w.heap.size ≤ (((w5.setCell ⟨wo.heap.size, 0, none⟩ (.string ma)).setCell ⟨wo.heap.size, 1, none⟩ (.int .i64 p.1.op)).setCell ⟨wo.heap.size, 2, none⟩ (.string mc)).heap.size) := Lib.hid (by rw [size_set, size_set, size_set]; have := hbel.out.size; have h5 := hbO.size; simp at h5; omega))) | (refine wpList_load_mid rfl _ (.tmp 7) rfl wo.heap.size 0 rfl _ _ (by exact blk_range (cs := [.string ma, .int .i64 p.1.op, .string mc]) HWF.out) Tryd.underlying36 rfl (by kernel_rfl) ?_) | (at_builtin; go_loud (refine wpList_append_lies _ rfl (.tmp 35) (.tmp 37) 33 rfl w.heap.size 36 i0 (.agg #[.string ⟨#[]⟩, .int .i64 0, .string ⟨#[]⟩]) 3 40 Tryd.underlying33 hinf hz0 hz1 hz2 rfl (by decide) (.slice lA l.length lC) l.length (flatM l) rfl (by exact HOW.out.alloc _) ⟨_, 0, none⟩ 1 1 [.string ma, .int .i64 p.1.op, .string mc] rfl rfl (by exact World.news_of_block (blk_new' _ _ _ (by simp [size_set]))) (fun u hu => by simp at hu; rcases hu with rfl | rfl | rfl <;> rfl) (by decide) (by have := HLL.out; unfold maxLen; omega) (by have := HLL.out; omega) (by have := HSW.out; simp at this; simp; omega) _ rfl (fun g1 cap w6 hown6 hgr6 hor6 hlt6 => ?_))))
              go_roundg m
              case measure => omega
              case rel => exact ⟨mr, l ++ [⟨ma, p.1.op, mc⟩], rfl, (by have h3 := HPL.out; have h4 := congrArg List.length HA.out.2.2; rw [bys_len] at h4; rw [List.length_map] at h3; have := HQL.out; omega), Lib.hid (by rw [flatM_snoc, List.length_append]; exact hown6), Lib.hid (by rw [List.length_append]; have h3 := HPL.out; have h4 := congrArg List.length HA.out.2.2; rw [bys_len] at h4; rw [List.length_map] at h3; have := HQL.out; have := HSZ.out; simp; omega), Lib.hid (by rw [List.map_append, show [SM.mk ma p.1.op mc].map toMat = [p.1] from (by have h1 := HA.out.1; have h2 := HA.out.2.1; unfold toMat; simp only [List.map_cons, List.map_nil]; rw [h1, h2]), HA.out.2.2]; exact HST.out), Lib.hid (fun b hb => by rw [HA.out.2.2] at hb; exact HMM.out b (HQM.out b (HPM.out b hb))), Lib.hid (((((((Chg.of_below (M := fun k => w.heap.size ≤ k) (below_thn (below_thn hbel.out (Below.alloc (Below.refl _ _) (Nat.le_refl _) _)) hbO)).setCell (.inl (by have := hbel.out.size; simp; omega)) _).setCell (.inl (by have := hbel.out.size; simp; omega)) _).setCell (.inl (by have := hbel.out.size; simp; omega)) _).alloc _).grown hgr6 (fun k hk => .inl (by have := (HO.out.lt k hk).1; omega))).below (fun k hk h => by omega))⟩
end Go.Proofs.YtmlmnckhiianhaaDoor
