/- MatchMissing, walked. -/
import Derived.Test.YtmlmnckhiianhaaDoorMaU
import Derived.Deep.RegionWith
namespace Go.Proofs.YtmlmnckhiianhaaDoor
open Go.RowKit
set_option linter.unusedVariables false
set_option linter.unusedSimpArgs false

theorem valOf_snoc (x : List Lbl) (y : Lbl) (n : List Nat) (h : n ≠ y.name) : valOf (x ++ [y]) n = valOf x n := by
  induction x with
  | nil =>
    show valOf [y] n = []
    unfold valOf
    rw [if_neg (fun e => h e.symm)]; rfl
  | cons a x ih =>
    rw [List.cons_append]
    unfold valOf
    rw [ih]
theorem holdsAll_snoc {l : List SM} {x : List (ByteArray × ByteArray)} {y : ByteArray × ByteArray} (h : ∀ z, z ∈ l → z.name ≠ y.1) : holdsAll (l.map toMat) ((x ++ [y]).map toLbl) = holdsAll (l.map toMat) (x.map toLbl) := by
  unfold holdsAll
  rw [Bool.eq_iff_iff, List.all_eq_true, List.all_eq_true]
  have e : ∀ z, z ∈ l → valOf ((x ++ [y]).map toLbl) (bys z.name) = valOf (x.map toLbl) (bys z.name) := fun z hz => by
    rw [List.map_append]
    exact valOf_snoc _ _ _ (fun e => h z hz (bys_inj.1 e))
  constructor
  · intro hh m hm
    obtain ⟨z, hz, rfl⟩ := List.mem_map.1 hm
    have := hh _ (List.mem_map.2 ⟨z, hz, rfl⟩)
    show holdsV (toMat z) (valOf _ (bys z.name)) = true
    rw [← e z hz]; exact this
  · intro hh m hm
    obtain ⟨z, hz, rfl⟩ := List.mem_map.1 hm
    have := hh _ (List.mem_map.2 ⟨z, hz, rfl⟩)
    show holdsV (toMat z) (valOf _ (bys z.name)) = true
    rw [e z hz]; exact this
def flatL : List (ByteArray × ByteArray) → List Value
  | [] => []
  | m :: l => .string m.1 :: .string m.2 :: flatL l
theorem flatL_len : ∀ l : List (ByteArray × ByteArray), (flatL l).length = l.length * 2
  | [] => rfl
  | m :: l => by simp [flatL, flatL_len l]; omega
theorem flatL_snoc : ∀ (l : List (ByteArray × ByteArray)) (m : ByteArray × ByteArray), flatL (l ++ [m]) = flatL l ++ [.string m.1, .string m.2]
  | [], m => rfl
  | a :: l, m => by simp [flatL, flatL_snoc l m]
theorem flatL_get : ∀ (l : List (ByteArray × ByteArray)) (i : Nat) (m : ByteArray × ByteArray), l[i]? = some m → ∀ (j : Nat) (v : Value), [Value.string m.1, .string m.2][j]? = some v → (flatL l)[i * 2 + j]? = some v
  | [], i, m, h => by simp at h
  | a :: l, 0, m, h => by
    simp at h; subst h
    intro j v hj
    match j, hj with
    | 0, hj => simpa [flatL] using hj
    | 1, hj => simpa [flatL] using hj
    | j + 2, hj => simp at hj
  | a :: l, i + 1, m, h => by
    intro j v hj
    have := flatL_get l i m (by simpa using h) j v hj
    have e : (i + 1) * 2 + j = (i * 2 + j) + 1 + 1 := by omega
    rw [e]
    simpa [flatL] using this
theorem flatL_one : ∀ (l : List (ByteArray × ByteArray)) (u : Value), u ∈ flatL l → u.oneCell' = true
  | [], u, h => by simp [flatL] at h
  | a :: l, u, h => by
    simp only [flatL, List.mem_cons] at h
    rcases h with rfl | rfl | h
    · rfl
    · rfl
    · exact flatL_one l u h
theorem LS.of_row {w : World} {B T : Nat} {v : Value} {l : List (ByteArray × ByteArray)} (h : w.ownsRow B T 2 v l.length (flatL l)) (hn : l.length ≤ 140737488351232) : LS w v l := by
  rcases h.2 with ⟨rfl, h0⟩ | ⟨g, cap, cur, rfl, hB, hg, h1, h2, h3, h4⟩
  · refine ⟨none, 0, by rw [h0], hn, fun i x hx => ?_⟩
    have := (List.getElem?_eq_some_iff.1 hx).1
    omega
  · refine ⟨_, cap, rfl, hn, fun i x hx => ⟨g, 0, rfl, fun j u hj => ?_⟩⟩
    have hil := (List.getElem?_eq_some_iff.1 hx).1
    have hj2 : j < 2 := by have := (List.getElem?_eq_some_iff.1 hj).1; simpa using this
    have e := flatL_get l i x hx j u hj
    have ec : w.cell? ⟨g, 0 + i * 2 + j, none⟩ = cur[0 + i * 2 + j]? := blk_cell hg
    rw [ec, Nat.zero_add, ← e, ← h4, List.getElem?_take_of_lt (by omega)]
    simp
theorem LS.cells {w : World} {A : Addr} {l : List (ByteArray × ByteArray)} {c : Nat} (h : LS w (.slice (some A) l.length c) l) : ∀ j u, (flatL l)[j]? = some u → w.cell? (A.add j) = some u := by
  obtain ⟨A', c', e, hn, hm⟩ := h
  injection e with e1 e2 e3
  intro j u hu
  have hj := (List.getElem?_eq_some_iff.1 hu).1
  rw [flatL_len] at hj
  obtain ⟨x, hx⟩ : ∃ x, l[j / 2]? = some x := ⟨_, List.getElem?_eq_getElem (by omega)⟩
  obtain ⟨g, o, h1, h2⟩ := hm (j / 2) x hx
  rw [← e1] at h1
  injection h1 with h1
  subst h1
  have h3 : [Value.string x.1, .string x.2][j % 2]? = some u := by
    have hlt : j % 2 < 2 := Nat.mod_lt _ (by decide)
    obtain ⟨v, hv⟩ : ∃ v, [Value.string x.1, .string x.2][j % 2]? = some v := ⟨_, List.getElem?_eq_getElem (by simpa using hlt)⟩
    have := flatL_get l (j / 2) x hx (j % 2) v hv
    rw [Nat.mul_comm, Nat.div_add_mod] at this
    rw [this] at hu
    rw [hv]; exact hu
  have h4 := h2 (j % 2) u h3
  have e4 : o + j / 2 * 2 + j % 2 = o + j := by have := Nat.div_add_mod j 2; omega
  rw [e4] at h4
  unfold Addr.add
  split
  · rename_i h0; subst h0; exact h4
  · exact h4
theorem Tryd.infoLbl : (Tryd.prog.info? 40).map (fun i => (i.zero, i.size, i.bytes)) = some (some (.agg #[.string ⟨#[]⟩, .string ⟨#[]⟩]), 2, 32) := by kernel_rfl

set_option maxRecDepth 100000 in
set_option maxHeartbeats 4000000 in
theorem missing_calls (v u : Value) (t : ByteArray) (l : List SM) (x : List (ByteArray × ByteArray)) (w : World) (hl : MS w v l) (h32 : x.length * 32 ≤ 140737488351232) (hx : LS w u x) (ht : t.size ≤ 9223372036854775807) (ho : Ops w) :
    Calls Tryd.prog 5 #[v, u, .string t] w fun e w' => e = .returned (.bool true) ∧ Below w.heap.size w w' := by
  obtain ⟨i0, hinf, hz0, hz1, hz2⟩ := info_parts Tryd.infoLbl
  have HL := Lib.hid hl
  have HX := Lib.hid hx
  obtain ⟨A, c, rfl, hn, hm⟩ := hl
  obtain ⟨lA, lc, rfl, hxn, hxm⟩ := hx
  have HM := Lib.hid hm
  have HXM := Lib.hid hxm
  clear hm hxm
  by_cases hc : checkErr (l.map toMat) = 0
  · have HC := Lib.hid hc
    have h16 : l.length ≤ 16 := by have := (checkErr_ok.1 hc).1; simpa using this
    have hd16 : decide ((16 : Int) < (l.length : Int)) = false := decide_eq_false (by omega)
    by_cases ht0 : t.size = 0
    · have hd0 : ((t.size : Int) == 0) = true := by rw [beq_iff_eq]; omega
      clear hc ht0
      go_enter Tryd.func5, Tryd.ntmps5
      go_wp2_with (first | (go_at_call 8; (fail_if_success (have := hbL)); ((refine (light_calls _ _ l x _ HL.out HX.out).mono ?_); rintro e w3 ⟨lb, rfl, hlb, hbL⟩; cases lb)) | (go_at_call 9; (fail_if_success (have := hbK)); ((refine (check_calls _ l _ (HL.out.below hbL)).mono ?_); rintro e w4 ⟨rfl, hbK⟩; rw [HC.out]; have HB4 := Lib.hid (below_thn hbL hbK))) | (go_at_call 10; (fail_if_success (have := hbW)); ((refine (awake12_calls _ (by first | exact (ho.below hbL).below hbK | exact ho.below hbL)).mono ?_); rintro e w9 ⟨rfl, hbW⟩)))
      all_goals go_ret
      all_goals exact ⟨rfl, by first | exact below_thn (below_thn hbL hbK) hbW | exact below_thn hbL hbW⟩
    by_cases ht60 : 60 < t.size
    · have hd0 : ((t.size : Int) == 0) = false := by rw [beq_eq_false_iff_ne]; omega
      have hd60 : decide ((60 : Int) < (t.size : Int)) = true := decide_eq_true (by omega)
      clear hc ht0 ht60
      go_enter Tryd.func5, Tryd.ntmps5
      go_wp2_with (first | (go_at_call 8; (fail_if_success (have := hbL)); ((refine (light_calls _ _ l x _ HL.out HX.out).mono ?_); rintro e w3 ⟨lb, rfl, hlb, hbL⟩; cases lb)) | (go_at_call 9; (fail_if_success (have := hbK)); ((refine (check_calls _ l _ (HL.out.below hbL)).mono ?_); rintro e w4 ⟨rfl, hbK⟩; rw [HC.out]; have HB4 := Lib.hid (below_thn hbL hbK))) | (go_at_call 10; (fail_if_success (have := hbW)); ((refine (awake12_calls _ (by first | exact (ho.below hbL).below hbK | exact ho.below hbL)).mono ?_); rintro e w9 ⟨rfl, hbW⟩)))
      all_goals go_ret
      all_goals exact ⟨rfl, by first | exact below_thn (below_thn hbL hbK) hbW | exact below_thn hbL hbW⟩
    have hd0 : ((t.size : Int) == 0) = false := by rw [beq_eq_false_iff_ne]; omega
    have hd60 : decide ((60 : Int) < (t.size : Int)) = false := decide_eq_false (by omega)
    clear hc ht0 ht60
    go_enter Tryd.func5, Tryd.ntmps5
    go_wp2_with (first | (go_at_call 8; (fail_if_success (have := hbL)); ((refine (light_calls _ _ l x _ HL.out HX.out).mono ?_); rintro e w3 ⟨lb, rfl, hlb, hbL⟩; cases lb)) | (go_at_call 9; (fail_if_success (have := hbK)); ((refine (check_calls _ l _ (HL.out.below hbL)).mono ?_); rintro e w4 ⟨rfl, hbK⟩; rw [HC.out]; have HB4 := Lib.hid (below_thn hbL hbK))) | (go_at_call 10; (fail_if_success (have := hbW)); ((refine (awake12_calls _ (by first | exact (ho.below hbL).below hbK | exact ho.below hbL)).mono ?_); rintro e w9 ⟨rfl, hbW⟩)) | (go_at_call 12; (fail_if_success (have := hbT1)); ((refine (to_calls _ l _ (HL.out.below HB4.out) (by omega)).mono ?_); rintro e w5 ⟨v1, rfl, hv1, hbT1⟩; have HV1 := Lib.hid hv1; have HB5 := Lib.hid (below_thn HB4.out hbT1); clear hv1)) | (go_at_call 11; (fail_if_success (have := hbN1)); ((refine (new_ok _ l _ HV1.out HC.out).mono ?_); rintro e w6 ⟨⟨ga, rfl, hsa⟩, hbN1⟩; have HSA := Lib.hid hsa; have HB6 := Lib.hid (below_thn HB5.out hbN1); clear hsa)))
    · go_ret
      exact ⟨rfl, below_thn hbL hbW⟩
    have HB6' := HB6
    go_loopg [50] (l.length + 1) (fun k u50 wr => ∃ i : Nat, u50 = .int .i64 (i : Int) ∧ i + k = l.length + 1 ∧ i ≤ l.length ∧ Hid (∀ (j : Nat) (z : SM), j < i → l[j]? = some z → z.name ≠ t) ∧ Hid (Below w6.heap.size w6 wr))
    case atStart => exact ⟨0, rfl, by omega, by omega, Lib.hid (fun j z hj => by omega), Lib.hid (Below.refl _ _)⟩
    case round =>
      obtain ⟨i, rfl, hik, hil, HNO, hbel⟩ := hrel
      obtain ⟨wo, rfl⟩ : ∃ m : World, m = wr := ⟨_, rfl⟩
      have HBX := Lib.hid (below_thn HB6.out hbel.out)
      by_cases hi : i < l.length
      · have hc1 : decide (i < l.length) = true := decide_eq_true hi
        have hc2 : (i : Int) < (l.length : Int) := by omega
        have hc3 : (0 : Int) ≤ (i : Int) := by omega
        obtain ⟨y, hyl⟩ : ∃ y, l[i]? = some y := ⟨_, List.getElem?_eq_getElem hi⟩
        obtain ⟨g1, o1, rfl, hrg⟩ := HM.out i y hyl
        have HRG := Lib.hid (rangeAt_below hrg HBX.out)
        have HYL := Lib.hid hyl
        obtain ⟨E, hE⟩ : ∃ E : Bool, (y.name.toList == t.toList) = E := ⟨_, rfl⟩
        have HE := Lib.hid ((str_eq y.name t).trans hE)
        clear hrg hyl
        unfold smCells at HRG
        cases E with
        | true =>
          go_wp2_with (first | (refine wpList_load_mid rfl _ (.tmp 52) rfl g1 (o1 + i * 3) rfl _ _ HRG.out Tryd.underlying28 rfl (by kernel_rfl) ?_) | (go_at_call 10; (refine (awake12_calls _ (by first | exact (ho.below HBX.out).below (Below.alloc (Below.refl _ _) (Nat.le_refl _) _) | exact ho.below HBX.out)).mono ?_); rintro e w9 ⟨rfl, hbW⟩))
          go_ret
          exact ⟨rfl, below_thn (below_thn HBX.out (Below.alloc (Below.refl _ _) (Nat.le_refl _) _)) hbW⟩
        | false =>
          have hxs : y.name ≠ t := of_decide_eq_false HE.out
          have HXS := Lib.hid hxs
          clear hxs
          go_wp2_with (refine wpList_load_mid rfl _ (.tmp 52) rfl g1 (o1 + i * 3) rfl _ _ HRG.out Tryd.underlying28 rfl (by kernel_rfl) ?_)
          go_roundg (gk - 1)
          case measure => omega
          case rel => exact ⟨i + 1, by go_num, by omega, by omega, Lib.hid (fun j z hj hz => by
            by_cases e : j = i
            · subst e
              have := HYL.out.symm.trans hz
              injection this with this
              rw [← this]; exact HXS.out
            · exact HNO.out j z (by omega) hz), Lib.hid (below_thn hbel.out (Below.alloc (Below.refl _ _) (Nat.le_refl _) _))⟩
      · obtain rfl : i = l.length := by omega
        have hc1 : decide (l.length < l.length) = false := decide_eq_false (by omega)
        have HNM := Lib.hid (show ∀ z, z ∈ l → z.name ≠ t from fun z hz => by
          obtain ⟨j, hj, rfl⟩ := List.getElem_of_mem hz
          exact HNO.out j _ hj (List.getElem?_eq_getElem hj))
        clear HNO hik hil hi
        go_wp2
        go_loopg [62] (x.length + 1) (fun k u62 wr => ∃ i : Nat, u62 = .int .i64 (i : Int) ∧ i + k = x.length + 1 ∧ i ≤ x.length ∧ Hid (∀ (j : Nat) (z : ByteArray × ByteArray), j < i → x[j]? = some z → z.1 ≠ t) ∧ Hid (Below wo.heap.size wo wr))
        case atStart => exact ⟨0, rfl, by omega, by omega, Lib.hid (fun j z hj => by omega), Lib.hid (Below.refl _ _)⟩
        case round =>
          obtain ⟨i, rfl, hik, hil, HNO, hbel2⟩ := hrel
          obtain ⟨wp, rfl⟩ : ∃ m : World, m = wr := ⟨_, rfl⟩
          have HBY := Lib.hid (below_thn HBX.out hbel2.out)
          by_cases hi : i < x.length
          · have hc1 : decide (i < x.length) = true := decide_eq_true hi
            have hc2 : (i : Int) < (x.length : Int) := by omega
            have hc3 : (0 : Int) ≤ (i : Int) := by omega
            obtain ⟨y, hyl⟩ : ∃ y, x[i]? = some y := ⟨_, List.getElem?_eq_getElem hi⟩
            obtain ⟨g1, o1, rfl, hrg⟩ := HXM.out i y hyl
            have HRG := Lib.hid (rangeAt_below hrg HBY.out)
            have HYL := Lib.hid hyl
            obtain ⟨E, hE⟩ : ∃ E : Bool, (y.1.toList == t.toList) = E := ⟨_, rfl⟩
            have HE := Lib.hid ((str_eq y.1 t).trans hE)
            clear hrg hyl
            cases E with
            | true =>
              go_wp2_with (first | (refine wpList_load_mid rfl _ (.tmp 64) rfl g1 (o1 + i * 2) rfl _ _ HRG.out Tryd.underlying40 rfl (by kernel_rfl) ?_) | (go_at_call 10; (refine (awake12_calls _ (by first | exact (ho.below HBY.out).below (Below.alloc (Below.refl _ _) (Nat.le_refl _) _) | exact ho.below HBY.out)).mono ?_); rintro e w9 ⟨rfl, hbW⟩))
              go_ret
              exact ⟨rfl, below_thn (below_thn HBY.out (Below.alloc (Below.refl _ _) (Nat.le_refl _) _)) hbW⟩
            | false =>
              have hxs : y.1 ≠ t := of_decide_eq_false HE.out
              have HXS := Lib.hid hxs
              clear hxs
              go_wp2_with (refine wpList_load_mid rfl _ (.tmp 64) rfl g1 (o1 + i * 2) rfl _ _ HRG.out Tryd.underlying40 rfl (by kernel_rfl) ?_)
              go_roundg (gk - 1)
              case measure => omega
              case rel => exact ⟨i + 1, by go_num, by omega, by omega, Lib.hid (fun j z hj hz => by
                by_cases e : j = i
                · subst e
                  have := HYL.out.symm.trans hz
                  injection this with this
                  rw [← this]; exact HXS.out
                · exact HNO.out j z (by omega) hz), Lib.hid (below_thn hbel2.out (Below.alloc (Below.refl _ _) (Nat.le_refl _) _))⟩
          · obtain rfl : i = x.length := by omega
            have hc1 : decide (x.length < x.length) = false := decide_eq_false (by omega)
            have HNX := Lib.hid (show True from trivial)
            clear HNO hik hil hi
            obtain ⟨V, hV⟩ : ∃ V, holdsAll (l.map toMat) (x.map toLbl) = V := ⟨_, rfl⟩
            have HV0 := Lib.hid hV
            have HV1 : Hid (holdsAll (l.map toMat) ((x ++ [(t, (⟨#[118]⟩ : ByteArray))]).map toLbl) = V) := Lib.hid ((holdsAll_snoc (y := (t, ⟨#[118]⟩)) HNM.out).trans hV)
            have HV2 : Hid (holdsAll (l.map toMat) ((x ++ [(t, (⟨#[]⟩ : ByteArray))]).map toLbl) = V) := Lib.hid ((holdsAll_snoc (y := (t, ⟨#[]⟩)) HNM.out).trans hV)
            have H64 : Hid (∀ z, z ∈ x → z.2.size ≤ 64) := Lib.hid (hlb (by first | trivial | rfl))
            have HSP := Lib.hid ((HSA.out.below hbel.out).below hbel2.out)
            clear hV
            by_cases hz : x.length = 0
            · obtain rfl := List.length_eq_zero_iff.1 hz
              have HX0 : Hid (LS w (.slice lA 0 lc) []) := HX
              have H6A : Hid (∀ z, z ∈ [(t, (⟨#[118]⟩ : ByteArray))] → z.2.size ≤ 64) := Lib.hid (fun z hz => by simp only [List.mem_cons, List.not_mem_nil, or_false] at hz; subst hz; simp [ByteArray.size])
              have H6E : Hid (∀ z, z ∈ [(t, (⟨#[]⟩ : ByteArray))] → z.2.size ≤ 64) := Lib.hid (fun z hz => by simp only [List.mem_cons, List.not_mem_nil, or_false] at hz; subst hz; simp [ByteArray.size])
              rw [List.nil_append] at HV1 HV2
              clear hz HX
              rcases lA with _ | lA
              all_goals cases V
              all_goals go_wp2_with (first | (at_builtin; (fail_if_success (have := hg2)); (refine wpList_append_lies _ rfl (.tmp 74) (.tmp 77) 23 rfl wp.heap.size 40 i0 (.agg #[.string ⟨#[]⟩, .string ⟨#[]⟩]) 2 32 Tryd.underlying23 hinf hz0 hz1 hz2 rfl (by decide) (.slice (some ⟨wp.heap.size, 0, none⟩) 0 0) 0 [] rfl (by exact ⟨rfl, .inr ⟨_, 0, #[], rfl, Nat.le_refl _, blk_alloc (blk_new _ _) _, by simp, by simp, by simp, by simp⟩⟩) ⟨_, 0, none⟩ 1 1 [.string t, .string ⟨#[118]⟩] rfl rfl (World.news_of_block (blk_new' _ _ _ (by simp))) (fun u hu => by simp at hu; rcases hu with rfl | rfl <;> rfl) (by decide) (by unfold maxLen; omega) (by omega) (by simp; first | done | omega) _ rfl (fun q2 cap2 wb hown2 hg2 hor2 hlt2 => ?_)); simp only [Nat.zero_add, List.nil_append] at hown2; have HG2 : Hid (Below wp.heap.size wp wb) := Lib.hid (((Chg.alloc (Chg.alloc (Chg.refl (fun k => wp.heap.size ≤ k) wp) _) _).grown hg2 (fun k hk => .inl (by simp [Value.ownBlock] at hk; omega))).below (fun k hk h => by omega)); have HO2 := Lib.hid hown2; clear hown2; have HBZ := Lib.hid (below_thn HBY.out HG2.out)) | (at_builtin; (fail_if_success (have := hg4)); (refine wpList_append_lies _ rfl (.tmp 81) (.tmp 84) 23 rfl wb.heap.size 40 i0 (.agg #[.string ⟨#[]⟩, .string ⟨#[]⟩]) 2 32 Tryd.underlying23 hinf hz0 hz1 hz2 rfl (by decide) (.slice (some ⟨wb.heap.size, 0, none⟩) 0 0) 0 [] rfl (by exact ⟨rfl, .inr ⟨_, 0, #[], rfl, Nat.le_refl _, blk_alloc (blk_new _ _) _, by simp, by simp, by simp, by simp⟩⟩) ⟨_, 0, none⟩ 1 1 [.string t, .string ⟨#[]⟩] rfl rfl (World.news_of_block (blk_new' _ _ _ (by simp))) (fun u hu => by simp at hu; rcases hu with rfl | rfl <;> rfl) (by decide) (by unfold maxLen; omega) (by omega) (by simp; first | done | omega) _ rfl (fun q4 cap4 wd hown4 hg4 hor4 hlt4 => ?_)); simp only [Nat.zero_add, List.nil_append] at hown4; have HG4 : Hid (Below wb.heap.size wb wd) := Lib.hid (((Chg.alloc (Chg.alloc (Chg.refl (fun k => wb.heap.size ≤ k) wb) _) _).grown hg4 (fun k hk => .inl (by simp [Value.ownBlock] at hk; omega))).below (fun k hk h => by omega)); have HO4 := Lib.hid hown4; clear hown4; have HBQ := Lib.hid (below_thn HBZ.out HG4.out); have HSP := Lib.hid ((HSP.out.below HG2.out).below HG4.out); have HLA := Lib.hid ((LS.of_row (l := [(t, (⟨#[118]⟩ : ByteArray))]) (w := wb) HO2.out (by simp)).below HG4.out); have HLE := Lib.hid (LS.of_row (l := [(t, (⟨#[]⟩ : ByteArray))]) (w := wd) HO4.out (by simp)); have HXX := Lib.hid (HX0.out.below HBQ.out); have HBW := HBQ) | (go_at_call 10; (refine (awake12_calls _ (ho.below HBW.out)).mono ?_); rintro e wQ ⟨rfl, hbQ⟩; have HSP := Lib.hid (HSP.out.below hbQ); have HLA := Lib.hid (HLA.out.below hbQ); have HLE := Lib.hid (HLE.out.below hbQ); have HXX := Lib.hid (HXX.out.below hbQ); have HBW := Lib.hid (below_thn HBW.out hbQ)) | (go_at_call 13; (fail_if_success (have := HK1)); (refine (selMatch_calls ga l _ HSP.out (check_mats HC.out) _ [(t, (⟨#[118]⟩ : ByteArray))] HLA.out H6A.out).mono ?_); rintro e wQ ⟨rfl, hbQ⟩; rw [HV1.out]; have HSP := Lib.hid (HSP.out.below hbQ); have HLA := Lib.hid (HLA.out.below hbQ); have HLE := Lib.hid (HLE.out.below hbQ); have HXX := Lib.hid (HXX.out.below hbQ); have HBW := Lib.hid (below_thn HBW.out hbQ); have HK1 := hc1) | (go_at_call 13; (fail_if_success (have := HK2)); (refine (selMatch_calls ga l _ HSP.out (check_mats HC.out) _ [] HXX.out (fun z hz => by simp at hz)).mono ?_); rintro e wQ ⟨rfl, hbQ⟩; rw [HV0.out]; have HSP := Lib.hid (HSP.out.below hbQ); have HLA := Lib.hid (HLA.out.below hbQ); have HLE := Lib.hid (HLE.out.below hbQ); have HXX := Lib.hid (HXX.out.below hbQ); have HBW := Lib.hid (below_thn HBW.out hbQ); have HK2 := hc1) | (go_at_call 13; (fail_if_success (have := HK3)); (refine (selMatch_calls ga l _ HSP.out (check_mats HC.out) _ [(t, (⟨#[]⟩ : ByteArray))] HLE.out H6E.out).mono ?_); rintro e wQ ⟨rfl, hbQ⟩; rw [HV2.out]; have HSP := Lib.hid (HSP.out.below hbQ); have HLA := Lib.hid (HLA.out.below hbQ); have HLE := Lib.hid (HLE.out.below hbQ); have HXX := Lib.hid (HXX.out.below hbQ); have HBW := Lib.hid (below_thn HBW.out hbQ); have HK3 := hc1) | (go_at_call 13; (fail_if_success (have := HK4)); (refine (selMatch_calls ga l _ HSP.out (check_mats HC.out) _ [] HXX.out (fun z hz => by simp at hz)).mono ?_); rintro e wQ ⟨rfl, hbQ⟩; rw [HV0.out]; have HSP := Lib.hid (HSP.out.below hbQ); have HLA := Lib.hid (HLA.out.below hbQ); have HLE := Lib.hid (HLE.out.below hbQ); have HXX := Lib.hid (HXX.out.below hbQ); have HBW := Lib.hid (below_thn HBW.out hbQ); have HK4 := hc1))
              all_goals go_ret
              all_goals exact ⟨rfl, HBW.out⟩
            · obtain ⟨A1, rfl⟩ : ∃ a, lA = some a := by
                obtain ⟨z, hz⟩ : ∃ z, x[0]? = some z := ⟨_, List.getElem?_eq_getElem (by omega)⟩
                obtain ⟨g, o, h1, _⟩ := HXM.out 0 z hz
                exact ⟨_, h1⟩
              have hpos : 0 < x.length := by omega
              clear hz
              cases V with
              | true =>
                go_wp2_with (first | (at_builtin; (fail_if_success (have := hg1)); (refine wpList_append_lies _ rfl (.tmp 72) (.tmp 73) 23 rfl wp.heap.size 40 i0 (.agg #[.string ⟨#[]⟩, .string ⟨#[]⟩]) 2 32 Tryd.underlying23 hinf hz0 hz1 hz2 rfl (by decide) (.slice (some ⟨wp.heap.size, 0, none⟩) 0 0) 0 [] rfl (by exact ⟨rfl, .inr ⟨_, 0, #[], rfl, Nat.le_refl _, blk_new _ _, by simp, by simp, by simp, by simp⟩⟩) A1 x.length lc (flatL x) rfl (flatL_len x) (by exact (HX.out.below (below_thn HBY.out (Below.alloc (Below.refl _ _) (Nat.le_refl _) _))).cells) (flatL_one x) hpos (by unfold maxLen; omega) (by omega) (by simp) _ rfl (fun q1 cap1 wa hown1 hg1 hor1 hlt1 => ?_)); simp only [Nat.zero_add, List.nil_append] at hown1; have HO1 := Lib.hid hown1; have HG1 : Hid (Below wp.heap.size wp wa) := Lib.hid (((Chg.alloc (Chg.refl (fun k => wp.heap.size ≤ k) wp) _).grown hg1 (fun k hk => .inl (by simp [Value.ownBlock] at hk; omega))).below (fun k hk h => by omega)); clear hown1) | (at_builtin; (fail_if_success (have := hg2)); (refine wpList_append_lies _ rfl (.tmp 74) (.tmp 77) 23 rfl wp.heap.size 40 i0 (.agg #[.string ⟨#[]⟩, .string ⟨#[]⟩]) 2 32 Tryd.underlying23 hinf hz0 hz1 hz2 rfl (by decide) (.slice (some ⟨q1, 0, none⟩) x.length cap1) x.length (flatL x) rfl (by exact HO1.out.alloc _) ⟨_, 0, none⟩ 1 1 [.string t, .string ⟨#[118]⟩] rfl rfl (World.news_of_block (blk_new _ _)) (fun u hu => by simp at hu; rcases hu with rfl | rfl <;> rfl) (by decide) (by unfold maxLen; omega) (by omega) (by have := HG1.out.size; simp; omega) _ rfl (fun q2 cap2 wb hown2 hg2 hor2 hlt2 => ?_)); have HG2 : Hid (Below wp.heap.size wp wb) := Lib.hid ((((Chg.of_below (M := fun k => wp.heap.size ≤ k) HG1.out).alloc _).grown hg2 (fun k hk => .inl (HO1.out.lt k hk).1)).below (fun k hk h => by omega)); have HBZ := Lib.hid (below_thn HBY.out HG2.out); obtain ⟨LA, hLA⟩ : ∃ LL, LL = x ++ [(t, ⟨#[118]⟩)] := ⟨_, rfl⟩; have LAV := Lib.hid (LS.of_row (l := LA) (w := wb) (by rw [hLA, List.length_append, flatL_snoc]; exact hown2) (by rw [hLA]; simp; omega)); have LAE := Lib.hid hLA; clear hown2 hLA) | (at_builtin; (fail_if_success (have := hg3)); (refine wpList_append_lies _ rfl (.tmp 79) (.tmp 80) 23 rfl wb.heap.size 40 i0 (.agg #[.string ⟨#[]⟩, .string ⟨#[]⟩]) 2 32 Tryd.underlying23 hinf hz0 hz1 hz2 rfl (by decide) (.slice (some ⟨wb.heap.size, 0, none⟩) 0 0) 0 [] rfl (by exact ⟨rfl, .inr ⟨_, 0, #[], rfl, Nat.le_refl _, blk_new _ _, by simp, by simp, by simp, by simp⟩⟩) A1 x.length lc (flatL x) rfl (flatL_len x) (by exact (HX.out.below (below_thn HBZ.out (Below.alloc (Below.refl _ _) (Nat.le_refl _) _))).cells) (flatL_one x) hpos (by unfold maxLen; omega) (by omega) (by simp) _ rfl (fun q3 cap3 wc hown3 hg3 hor3 hlt3 => ?_)); simp only [Nat.zero_add, List.nil_append] at hown3; have HO3 := Lib.hid hown3; have HG3 : Hid (Below wb.heap.size wb wc) := Lib.hid (((Chg.alloc (Chg.refl (fun k => wb.heap.size ≤ k) wb) _).grown hg3 (fun k hk => .inl (by simp [Value.ownBlock] at hk; omega))).below (fun k hk h => by omega)); clear hown3) | (at_builtin; (fail_if_success (have := hg4)); (refine wpList_append_lies _ rfl (.tmp 81) (.tmp 84) 23 rfl wb.heap.size 40 i0 (.agg #[.string ⟨#[]⟩, .string ⟨#[]⟩]) 2 32 Tryd.underlying23 hinf hz0 hz1 hz2 rfl (by decide) (.slice (some ⟨q3, 0, none⟩) x.length cap3) x.length (flatL x) rfl (by exact HO3.out.alloc _) ⟨_, 0, none⟩ 1 1 [.string t, .string ⟨#[]⟩] rfl rfl (World.news_of_block (blk_new _ _)) (fun u hu => by simp at hu; rcases hu with rfl | rfl <;> rfl) (by decide) (by unfold maxLen; omega) (by omega) (by have := HG3.out.size; simp; omega) _ rfl (fun q4 cap4 wd hown4 hg4 hor4 hlt4 => ?_)); have HG4 : Hid (Below wb.heap.size wb wd) := Lib.hid ((((Chg.of_below (M := fun k => wb.heap.size ≤ k) HG3.out).alloc _).grown hg4 (fun k hk => .inl (HO3.out.lt k hk).1)).below (fun k hk h => by omega)); have HBQ := Lib.hid (below_thn HBZ.out HG4.out); obtain ⟨LE, hLE⟩ : ∃ LL, LL = x ++ [(t, ⟨#[]⟩)] := ⟨_, rfl⟩; have LEV := Lib.hid (LS.of_row (l := LE) (w := wd) (by rw [hLE, List.length_append, flatL_snoc]; exact hown4) (by rw [hLE]; simp; omega)); have LEE := Lib.hid hLE; clear hown4 hLE; have HSP := Lib.hid ((HSP.out.below HG2.out).below HG4.out); have HLA := Lib.hid (LAV.out.below HG4.out); have HLE := LEV; have HXX := Lib.hid (HX.out.below HBQ.out); have HBW := HBQ; have H64A : Hid (∀ z, z ∈ LA → z.2.size ≤ 64) := Lib.hid (fun z hz => by rw [LAE.out] at hz; rcases List.mem_append.1 hz with h | h; exact H64.out z h; simp at h; subst h; simp [ByteArray.size]); have H64E : Hid (∀ z, z ∈ LE → z.2.size ≤ 64) := Lib.hid (fun z hz => by rw [LEE.out] at hz; rcases List.mem_append.1 hz with h | h; exact H64.out z h; simp at h; subst h; simp [ByteArray.size]); have HVA := Lib.hid (show holdsAll (l.map toMat) (LA.map toLbl) = true from by rw [LAE.out]; exact HV1.out); have HVE := Lib.hid (show holdsAll (l.map toMat) (LE.map toLbl) = true from by rw [LEE.out]; exact HV2.out)) | (go_at_call 10; (refine (awake12_calls _ (ho.below HBW.out)).mono ?_); rintro e wQ ⟨rfl, hbQ⟩; have HSP := Lib.hid (HSP.out.below hbQ); have HLA := Lib.hid (HLA.out.below hbQ); have HLE := Lib.hid (HLE.out.below hbQ); have HXX := Lib.hid (HXX.out.below hbQ); have HBW := Lib.hid (below_thn HBW.out hbQ)) | (go_at_call 13; (fail_if_success (have := HK1)); (refine (selMatch_calls ga l _ HSP.out (check_mats HC.out) _ LA HLA.out H64A.out).mono ?_); rintro e wQ ⟨rfl, hbQ⟩; rw [HVA.out]; have HSP := Lib.hid (HSP.out.below hbQ); have HLA := Lib.hid (HLA.out.below hbQ); have HLE := Lib.hid (HLE.out.below hbQ); have HXX := Lib.hid (HXX.out.below hbQ); have HBW := Lib.hid (below_thn HBW.out hbQ); have HK1 := hc1) | (go_at_call 13; (fail_if_success (have := HK2)); (refine (selMatch_calls ga l _ HSP.out (check_mats HC.out) _ x HXX.out H64.out).mono ?_); rintro e wQ ⟨rfl, hbQ⟩; rw [HV0.out]; have HSP := Lib.hid (HSP.out.below hbQ); have HLA := Lib.hid (HLA.out.below hbQ); have HLE := Lib.hid (HLE.out.below hbQ); have HXX := Lib.hid (HXX.out.below hbQ); have HBW := Lib.hid (below_thn HBW.out hbQ); have HK2 := hc1) | (go_at_call 13; (fail_if_success (have := HK3)); (refine (selMatch_calls ga l _ HSP.out (check_mats HC.out) _ LE HLE.out H64E.out).mono ?_); rintro e wQ ⟨rfl, hbQ⟩; rw [HVE.out]; have HSP := Lib.hid (HSP.out.below hbQ); have HLA := Lib.hid (HLA.out.below hbQ); have HLE := Lib.hid (HLE.out.below hbQ); have HXX := Lib.hid (HXX.out.below hbQ); have HBW := Lib.hid (below_thn HBW.out hbQ); have HK3 := hc1) | (go_at_call 13; (fail_if_success (have := HK4)); (refine (selMatch_calls ga l _ HSP.out (check_mats HC.out) _ x HXX.out H64.out).mono ?_); rintro e wQ ⟨rfl, hbQ⟩; rw [HV0.out]; have HSP := Lib.hid (HSP.out.below hbQ); have HLA := Lib.hid (HLA.out.below hbQ); have HLE := Lib.hid (HLE.out.below hbQ); have HXX := Lib.hid (HXX.out.below hbQ); have HBW := Lib.hid (below_thn HBW.out hbQ); have HK4 := hc1))
                go_ret
                exact ⟨rfl, HBW.out⟩
              | false =>
                go_wp2_with (first | (at_builtin; (fail_if_success (have := hg1)); (refine wpList_append_lies _ rfl (.tmp 72) (.tmp 73) 23 rfl wp.heap.size 40 i0 (.agg #[.string ⟨#[]⟩, .string ⟨#[]⟩]) 2 32 Tryd.underlying23 hinf hz0 hz1 hz2 rfl (by decide) (.slice (some ⟨wp.heap.size, 0, none⟩) 0 0) 0 [] rfl (by exact ⟨rfl, .inr ⟨_, 0, #[], rfl, Nat.le_refl _, blk_new _ _, by simp, by simp, by simp, by simp⟩⟩) A1 x.length lc (flatL x) rfl (flatL_len x) (by exact (HX.out.below (below_thn HBY.out (Below.alloc (Below.refl _ _) (Nat.le_refl _) _))).cells) (flatL_one x) hpos (by unfold maxLen; omega) (by omega) (by simp) _ rfl (fun q1 cap1 wa hown1 hg1 hor1 hlt1 => ?_)); simp only [Nat.zero_add, List.nil_append] at hown1; have HO1 := Lib.hid hown1; have HG1 : Hid (Below wp.heap.size wp wa) := Lib.hid (((Chg.alloc (Chg.refl (fun k => wp.heap.size ≤ k) wp) _).grown hg1 (fun k hk => .inl (by simp [Value.ownBlock] at hk; omega))).below (fun k hk h => by omega)); clear hown1) | (at_builtin; (fail_if_success (have := hg2)); (refine wpList_append_lies _ rfl (.tmp 74) (.tmp 77) 23 rfl wp.heap.size 40 i0 (.agg #[.string ⟨#[]⟩, .string ⟨#[]⟩]) 2 32 Tryd.underlying23 hinf hz0 hz1 hz2 rfl (by decide) (.slice (some ⟨q1, 0, none⟩) x.length cap1) x.length (flatL x) rfl (by exact HO1.out.alloc _) ⟨_, 0, none⟩ 1 1 [.string t, .string ⟨#[118]⟩] rfl rfl (World.news_of_block (blk_new _ _)) (fun u hu => by simp at hu; rcases hu with rfl | rfl <;> rfl) (by decide) (by unfold maxLen; omega) (by omega) (by have := HG1.out.size; simp; omega) _ rfl (fun q2 cap2 wb hown2 hg2 hor2 hlt2 => ?_)); have HG2 : Hid (Below wp.heap.size wp wb) := Lib.hid ((((Chg.of_below (M := fun k => wp.heap.size ≤ k) HG1.out).alloc _).grown hg2 (fun k hk => .inl (HO1.out.lt k hk).1)).below (fun k hk h => by omega)); have HBZ := Lib.hid (below_thn HBY.out HG2.out); obtain ⟨LA, hLA⟩ : ∃ LL, LL = x ++ [(t, ⟨#[118]⟩)] := ⟨_, rfl⟩; have LAV := Lib.hid (LS.of_row (l := LA) (w := wb) (by rw [hLA, List.length_append, flatL_snoc]; exact hown2) (by rw [hLA]; simp; omega)); have LAE := Lib.hid hLA; clear hown2 hLA) | (at_builtin; (fail_if_success (have := hg3)); (refine wpList_append_lies _ rfl (.tmp 79) (.tmp 80) 23 rfl wb.heap.size 40 i0 (.agg #[.string ⟨#[]⟩, .string ⟨#[]⟩]) 2 32 Tryd.underlying23 hinf hz0 hz1 hz2 rfl (by decide) (.slice (some ⟨wb.heap.size, 0, none⟩) 0 0) 0 [] rfl (by exact ⟨rfl, .inr ⟨_, 0, #[], rfl, Nat.le_refl _, blk_new _ _, by simp, by simp, by simp, by simp⟩⟩) A1 x.length lc (flatL x) rfl (flatL_len x) (by exact (HX.out.below (below_thn HBZ.out (Below.alloc (Below.refl _ _) (Nat.le_refl _) _))).cells) (flatL_one x) hpos (by unfold maxLen; omega) (by omega) (by simp) _ rfl (fun q3 cap3 wc hown3 hg3 hor3 hlt3 => ?_)); simp only [Nat.zero_add, List.nil_append] at hown3; have HO3 := Lib.hid hown3; have HG3 : Hid (Below wb.heap.size wb wc) := Lib.hid (((Chg.alloc (Chg.refl (fun k => wb.heap.size ≤ k) wb) _).grown hg3 (fun k hk => .inl (by simp [Value.ownBlock] at hk; omega))).below (fun k hk h => by omega)); clear hown3) | (at_builtin; (fail_if_success (have := hg4)); (refine wpList_append_lies _ rfl (.tmp 81) (.tmp 84) 23 rfl wb.heap.size 40 i0 (.agg #[.string ⟨#[]⟩, .string ⟨#[]⟩]) 2 32 Tryd.underlying23 hinf hz0 hz1 hz2 rfl (by decide) (.slice (some ⟨q3, 0, none⟩) x.length cap3) x.length (flatL x) rfl (by exact HO3.out.alloc _) ⟨_, 0, none⟩ 1 1 [.string t, .string ⟨#[]⟩] rfl rfl (World.news_of_block (blk_new _ _)) (fun u hu => by simp at hu; rcases hu with rfl | rfl <;> rfl) (by decide) (by unfold maxLen; omega) (by omega) (by have := HG3.out.size; simp; omega) _ rfl (fun q4 cap4 wd hown4 hg4 hor4 hlt4 => ?_)); have HG4 : Hid (Below wb.heap.size wb wd) := Lib.hid ((((Chg.of_below (M := fun k => wb.heap.size ≤ k) HG3.out).alloc _).grown hg4 (fun k hk => .inl (HO3.out.lt k hk).1)).below (fun k hk h => by omega)); have HBQ := Lib.hid (below_thn HBZ.out HG4.out); obtain ⟨LE, hLE⟩ : ∃ LL, LL = x ++ [(t, ⟨#[]⟩)] := ⟨_, rfl⟩; have LEV := Lib.hid (LS.of_row (l := LE) (w := wd) (by rw [hLE, List.length_append, flatL_snoc]; exact hown4) (by rw [hLE]; simp; omega)); have LEE := Lib.hid hLE; clear hown4 hLE; have HSP := Lib.hid ((HSP.out.below HG2.out).below HG4.out); have HLA := Lib.hid (LAV.out.below HG4.out); have HLE := LEV; have HXX := Lib.hid (HX.out.below HBQ.out); have HBW := HBQ; have H64A : Hid (∀ z, z ∈ LA → z.2.size ≤ 64) := Lib.hid (fun z hz => by rw [LAE.out] at hz; rcases List.mem_append.1 hz with h | h; exact H64.out z h; simp at h; subst h; simp [ByteArray.size]); have H64E : Hid (∀ z, z ∈ LE → z.2.size ≤ 64) := Lib.hid (fun z hz => by rw [LEE.out] at hz; rcases List.mem_append.1 hz with h | h; exact H64.out z h; simp at h; subst h; simp [ByteArray.size]); have HVA := Lib.hid (show holdsAll (l.map toMat) (LA.map toLbl) = false from by rw [LAE.out]; exact HV1.out); have HVE := Lib.hid (show holdsAll (l.map toMat) (LE.map toLbl) = false from by rw [LEE.out]; exact HV2.out)) | (go_at_call 10; (refine (awake12_calls _ (ho.below HBW.out)).mono ?_); rintro e wQ ⟨rfl, hbQ⟩; have HSP := Lib.hid (HSP.out.below hbQ); have HLA := Lib.hid (HLA.out.below hbQ); have HLE := Lib.hid (HLE.out.below hbQ); have HXX := Lib.hid (HXX.out.below hbQ); have HBW := Lib.hid (below_thn HBW.out hbQ)) | (go_at_call 13; (fail_if_success (have := HK1)); (refine (selMatch_calls ga l _ HSP.out (check_mats HC.out) _ LA HLA.out H64A.out).mono ?_); rintro e wQ ⟨rfl, hbQ⟩; rw [HVA.out]; have HSP := Lib.hid (HSP.out.below hbQ); have HLA := Lib.hid (HLA.out.below hbQ); have HLE := Lib.hid (HLE.out.below hbQ); have HXX := Lib.hid (HXX.out.below hbQ); have HBW := Lib.hid (below_thn HBW.out hbQ); have HK1 := hc1) | (go_at_call 13; (fail_if_success (have := HK2)); (refine (selMatch_calls ga l _ HSP.out (check_mats HC.out) _ x HXX.out H64.out).mono ?_); rintro e wQ ⟨rfl, hbQ⟩; rw [HV0.out]; have HSP := Lib.hid (HSP.out.below hbQ); have HLA := Lib.hid (HLA.out.below hbQ); have HLE := Lib.hid (HLE.out.below hbQ); have HXX := Lib.hid (HXX.out.below hbQ); have HBW := Lib.hid (below_thn HBW.out hbQ); have HK2 := hc1) | (go_at_call 13; (fail_if_success (have := HK3)); (refine (selMatch_calls ga l _ HSP.out (check_mats HC.out) _ LE HLE.out H64E.out).mono ?_); rintro e wQ ⟨rfl, hbQ⟩; rw [HVE.out]; have HSP := Lib.hid (HSP.out.below hbQ); have HLA := Lib.hid (HLA.out.below hbQ); have HLE := Lib.hid (HLE.out.below hbQ); have HXX := Lib.hid (HXX.out.below hbQ); have HBW := Lib.hid (below_thn HBW.out hbQ); have HK3 := hc1) | (go_at_call 13; (fail_if_success (have := HK4)); (refine (selMatch_calls ga l _ HSP.out (check_mats HC.out) _ x HXX.out H64.out).mono ?_); rintro e wQ ⟨rfl, hbQ⟩; rw [HV0.out]; have HSP := Lib.hid (HSP.out.below hbQ); have HLA := Lib.hid (HLA.out.below hbQ); have HLE := Lib.hid (HLE.out.below hbQ); have HXX := Lib.hid (HXX.out.below hbQ); have HBW := Lib.hid (below_thn HBW.out hbQ); have HK4 := hc1))
                go_ret
                exact ⟨rfl, HBW.out⟩
  · obtain ⟨C, hC⟩ : ∃ C, checkErr (l.map toMat) = C := ⟨_, rfl⟩
    have HC := Lib.hid hC
    have hcz : ((C : Int) == 0) = false := by rw [beq_eq_false_iff_ne]; intro h; exact hc (by rw [hC]; omega)
    have hcn : ((C : Int) != 0) = true := by rw [bne_iff_ne]; intro h; exact hc (by rw [hC]; omega)
    clear hc hC
    by_cases h16 : 16 < l.length
    · have hd16 : decide ((16 : Int) < (l.length : Int)) = true := decide_eq_true (by omega)
      clear h16
      go_enter Tryd.func5, Tryd.ntmps5
      go_wp2_with (first | (go_at_call 8; (fail_if_success (have := hbL)); ((refine (light_calls _ _ l x _ HL.out HX.out).mono ?_); rintro e w3 ⟨lb, rfl, hlb, hbL⟩; cases lb)) | (go_at_call 10; (fail_if_success (have := hbW)); ((refine (awake12_calls _ (by first | exact (ho.below hbL).below hbK | exact ho.below hbL)).mono ?_); rintro e w9 ⟨rfl, hbW⟩)))
      all_goals go_ret
      all_goals exact ⟨rfl, by first | exact below_thn (below_thn hbL hbK) hbW | exact below_thn hbL hbW⟩
    · have hd16 : decide ((16 : Int) < (l.length : Int)) = false := decide_eq_false (by omega)
      clear h16
      go_enter Tryd.func5, Tryd.ntmps5
      go_wp2_with (first | (go_at_call 8; (fail_if_success (have := hbL)); ((refine (light_calls _ _ l x _ HL.out HX.out).mono ?_); rintro e w3 ⟨lb, rfl, hlb, hbL⟩; cases lb)) | (go_at_call 9; (fail_if_success (have := hbK)); ((refine (check_calls _ l _ (HL.out.below hbL)).mono ?_); rintro e w4 ⟨rfl, hbK⟩; rw [HC.out]; have HB4 := Lib.hid (below_thn hbL hbK))) | (go_at_call 10; (fail_if_success (have := hbW)); ((refine (awake12_calls _ (by first | exact (ho.below hbL).below hbK | exact ho.below hbL)).mono ?_); rintro e w9 ⟨rfl, hbW⟩)))
      all_goals go_ret
      all_goals exact ⟨rfl, by first | exact below_thn (below_thn hbL hbK) hbW | exact below_thn hbL hbW⟩
end Go.Proofs.YtmlmnckhiianhaaDoor
