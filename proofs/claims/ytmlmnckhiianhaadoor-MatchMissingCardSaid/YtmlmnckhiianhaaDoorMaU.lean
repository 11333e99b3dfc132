/- MatchTurns, walked. -/
import Derived.Test.YtmlmnckhiianhaaDoorMaT
import Derived.Test.YtmlmnckhiianhaaDoorMaH
namespace Go.Proofs.YtmlmnckhiianhaaDoor
open Go.RowKit
set_option linter.unusedVariables false
set_option linter.unusedSimpArgs false

/-- The first k matchers of l, turned by b places. -/
def rotN (l : List SM) (b k : Nat) : List SM := (List.range k).map fun i => l[(i + b) % l.length]!
theorem rotN_succ (l : List SM) (b k : Nat) : rotN l b (k + 1) = rotN l b k ++ [l[(k + b) % l.length]!] := by
  unfold rotN
  rw [List.range_succ, List.map_append]; rfl
theorem rotN_len (l : List SM) (b k : Nat) : (rotN l b k).length = k := by simp [rotN]
theorem rot_mem {l : List SM} (b : Nat) (hn : 0 < l.length) (x : SM) : x ∈ rotN l b l.length ↔ x ∈ l := by
  unfold rotN
  rw [List.mem_map]
  constructor
  · rintro ⟨i, hi, rfl⟩
    rw [getElem!_pos l _ (Nat.mod_lt _ hn)]
    exact List.getElem_mem _
  · intro hx
    obtain ⟨k, hk, rfl⟩ := List.getElem_of_mem hx
    refine ⟨(k + (l.length - b % l.length)) % l.length, List.mem_range.2 (Nat.mod_lt _ hn), ?_⟩
    have hb := Nat.mod_lt b hn
    have e : ((k + (l.length - b % l.length)) % l.length + b) % l.length = k := by
      rw [Nat.mod_add_mod]
      have h1 : b % l.length + l.length * (b / l.length) = b := Nat.mod_add_div b l.length
      have h2 : k + (l.length - b % l.length) + b = k + l.length * (b / l.length + 1) := by
        rw [Nat.mul_add]; omega
      rw [h2, Nat.add_mul_mod_self_left, Nat.mod_eq_of_lt hk]
    rw [e, getElem!_pos l k hk]
theorem holdsAll_mem {l m : List SM} {u : List Lbl} (h : ∀ x, x ∈ l ↔ x ∈ m) : holdsAll (l.map toMat) u = holdsAll (m.map toMat) u := by
  unfold holdsAll
  rw [Bool.eq_iff_iff, List.all_eq_true, List.all_eq_true]
  constructor
  · intro hh y hy
    obtain ⟨x, hx, rfl⟩ := List.mem_map.1 hy
    exact hh _ (List.mem_map.2 ⟨x, (h x).2 hx, rfl⟩)
  · intro hh y hy
    obtain ⟨x, hx, rfl⟩ := List.mem_map.1 hy
    exact hh _ (List.mem_map.2 ⟨x, (h x).1 hx, rfl⟩)
theorem check_mem {l m : List SM} (h : ∀ x, x ∈ m → x ∈ l) (hl : m.length ≤ 16) (hc : checkErr (l.map toMat) = 0) : checkErr (m.map toMat) = 0 := by
  rw [checkErr_ok] at hc ⊢
  refine ⟨by simpa using hl, fun y hy => ?_⟩
  obtain ⟨x, hx, rfl⟩ := List.mem_map.1 hy
  exact hc.2 _ (List.mem_map.2 ⟨x, h x hx, rfl⟩)
/-- The opposite of a matcher. -/
def SM.turn (x : SM) : SM := { x with op := if x.op % 2 = 0 then x.op + 1 else x.op - 1 }
theorem toMat_turn (x : SM) : toMat x.turn = (toMat x).turn := rfl
theorem holds_one (x : SM) (u : List Lbl) : holdsAll ([x].map toMat) u = holdsV (toMat x) (valOf u (bys x.name)) := by
  unfold holdsAll
  simp [toMat]
theorem holds_one_turn {x : SM} (h : matErr (toMat x) = 0) (u : List Lbl) : holdsAll ([x.turn].map toMat) u = !holdsAll ([x].map toMat) u := by
  rw [holds_one, holds_one, toMat_turn, holds_turn h]; rfl
theorem Tryd.infoRefM : (Tryd.prog.info? 28).map (fun i => (i.zero, i.size, i.bytes)) = some (some (.agg #[.string ⟨#[]⟩, .int .i64 0, .string ⟨#[]⟩]), 3, 40) := by kernel_rfl

theorem MS_one (y : SM) {w : World} {g T : Nat} {fr : Nat × Nat} (h : w.heap[g]? = some (.cells #[.string y.name, .int .i64 y.op, .string y.value] T fr)) : MS w (.slice (some ⟨g, 0, none⟩) 1 1) [y] :=
  ⟨_, 1, rfl, by simp, fun i x hx => ⟨g, 0, rfl, fun j v hv => by
    rw [blk_cell h]
    match i, hx with
    | 0, hx =>
      simp at hx; subst hx
      match j, hv with
      | 0, hv => simpa [smCells] using hv
      | 1, hv => simpa [smCells] using hv
      | 2, hv => simpa [smCells] using hv
      | j + 3, hv => simp [smCells] at hv
    | i + 1, hx => simp at hx⟩⟩
theorem new_ok (v : Value) (l : List SM) (w : World) (hl : MS w v l) (hc : checkErr (l.map toMat) = 0) : Calls Tryd.prog 11 #[v] w fun e w' => (∃ g, e = .returned (.tuple #[.pointer (some ⟨g, 0, none⟩), .int .i64 0]) ∧ Sel w' g l) ∧ Below w.heap.size w w' :=
  (new_calls v l w hl).mono fun e w' ⟨h1, h2⟩ => by
    rcases h2 with ⟨h3, _⟩ | ⟨_, h3⟩
    · exact absurd hc h3
    · exact ⟨h3, h1⟩

set_option maxRecDepth 100000 in
set_option maxHeartbeats 4000000 in
theorem turns_calls (v u : Value) (b : Nat) (hb : b < 256) (l : List SM) (x : List (ByteArray × ByteArray)) (w : World) (hl : MS w v l) (hx : LS w u x) (ho : Ops w) :
    Calls Tryd.prog 3 #[v, u, .int .u8 (b : Int)] w fun e w' => e = .returned (.bool true) ∧ Below w.heap.size w w' := by
  obtain ⟨i0, hinf, hz0, hz1, hz2⟩ := info_parts Tryd.infoRefM
  have HL := Lib.hid hl
  have HX := Lib.hid hx
  obtain ⟨A, c, rfl, hn, hm⟩ := hl
  obtain ⟨lA, lc, rfl, -⟩ := hx
  have HM := Lib.hid hm
  clear hm
  by_cases hz : l.length = 0
  · have hzz : ((l.length : Int) == 0) = true := by simp; exact List.length_eq_zero_iff.1 hz
    clear hz
    go_enter Tryd.func3, Tryd.ntmps3
    go_wp2_with (first | (go_at_call 8; (fail_if_success (have := hbL)); ((refine (light_calls _ _ l x _ HL.out HX.out).mono ?_); rintro e w3 ⟨lb, rfl, hlb, hbL⟩; cases lb)) | (go_at_call 10; (fail_if_success (have := hbW)); ((refine (awake12_calls _ (by first | exact (ho.below hbL).below hbK | exact ho.below hbL)).mono ?_); rintro e w9 ⟨rfl, hbW⟩)))
    all_goals go_ret
    all_goals exact ⟨rfl, by first | exact below_thn (below_thn hbL hbK) hbW | exact below_thn hbL hbW⟩
  have hzz : ((l.length : Int) == 0) = false := by simp; intro h; rw [h] at hz; exact hz rfl
  by_cases hc : checkErr (l.map toMat) = 0
  · have HC := Lib.hid hc
    have h16 : l.length ≤ 16 := by have := (checkErr_ok.1 hc).1; simpa using this
    have hpos : 0 < l.length := by omega
    have HPOS := Lib.hid hpos
    clear hc hz hpos
    go_enter Tryd.func3, Tryd.ntmps3
    go_wp2_with (first | (go_at_call 8; (fail_if_success (have := hbL)); ((refine (light_calls _ _ l x _ HL.out HX.out).mono ?_); rintro e w3 ⟨lb, rfl, hlb, hbL⟩; cases lb)) | (go_at_call 9; (fail_if_success (have := hbK)); ((refine (check_calls _ l _ (HL.out.below hbL)).mono ?_); rintro e w4 ⟨rfl, hbK⟩; rw [HC.out])) | (go_at_call 10; (fail_if_success (have := hbW)); ((refine (awake12_calls _ (by first | exact (ho.below hbL).below hbK | exact ho.below hbL)).mono ?_); rintro e w9 ⟨rfl, hbW⟩)))
    · go_ret
      exact ⟨rfl, by first | exact below_thn (below_thn hbL hbK) hbW | exact below_thn hbL hbW⟩
    · have H64 := Lib.hid (hlb trivial)
      have hb1 : IntKind.i64.wrap (b : Int) = (b : Int) := IntWalk.i64_in _ (by omega)
      have HB4 := Lib.hid (below_thn hbL hbK)
      go_loopg [37, 7] (l.length + 1) (fun k u37 u7 wr => ∃ i : Nat, u37 = .int .i64 (i : Int) ∧ i + k = l.length + 1 ∧ i ≤ l.length ∧ Hid (wr.ownsRow w4.heap.size 28 3 u7 i (flatM (rotN l b i))) ∧ Hid (Below w4.heap.size w4 wr))
      case atStart => exact ⟨0, rfl, by omega, by omega, Lib.hid ⟨rfl, .inl ⟨rfl, rfl⟩⟩, Lib.hid (Below.refl _ _)⟩
      case round =>
        obtain ⟨i, rfl, hik, hil, HO, hbel⟩ := hrel
        obtain ⟨wo, rfl⟩ : ∃ m : World, m = wr := ⟨_, rfl⟩
        by_cases hi : i < l.length
        · have hc1 : decide (i < l.length) = true := decide_eq_true hi
          have hc2 : (i : Int) < (l.length : Int) := by omega
          obtain ⟨j, hj⟩ : ∃ j, (i + b) % l.length = j := ⟨_, rfl⟩
          have hjl : j < l.length := by rw [← hj]; exact Nat.mod_lt _ HPOS.out
          have hw1 : IntKind.i64.wrap ((i : Int) + (b : Int)) = (i : Int) + (b : Int) := IntWalk.i64_in _ (by omega)
          have hrem : ((i : Int) + (b : Int)).tmod (l.length : Int) = (j : Int) := by
            rw [← Int.natCast_add, Int.tmod_eq_emod_of_nonneg (Int.natCast_nonneg _), ← Int.natCast_emod, hj]
          have hw2 : IntKind.i64.wrap (j : Int) = (j : Int) := IntWalk.i64_in _ (by omega)
          have hc3 : (0 : Int) ≤ (j : Int) := by omega
          have hc4 : (j : Int) < (l.length : Int) := by omega
          obtain ⟨y, hyl⟩ : ∃ y, l[j]? = some y := ⟨_, List.getElem?_eq_getElem hjl⟩
          obtain ⟨g1, o1, rfl, hrg⟩ := HM.out j y hyl
          have HRG := Lib.hid (rangeAt_below (rangeAt_below hrg HB4.out) hbel.out)
          unfold smCells at HRG
          have HNX := Lib.hid (show rotN l b (i + 1) = rotN l b i ++ [y] by
            rw [rotN_succ, hj, getElem!_pos l j hjl]
            rw [List.getElem?_eq_getElem hjl] at hyl
            injection hyl with hyl; rw [hyl])
          clear hrg hyl hj
          go_wp2_with (first | (refine wpList_load_mid rfl _ (.tmp 49) rfl g1 (o1 + j * 3) rfl _ _ HRG.out Tryd.underlying28 rfl (by kernel_rfl) ?_) | (at_builtin; go_loud (refine wpList_append_lies _ rfl (.tmp 40) (.tmp 51) 22 rfl w4.heap.size 28 i0 (.agg #[.string ⟨#[]⟩, .int .i64 0, .string ⟨#[]⟩]) 3 40 Tryd.underlying22 hinf hz0 hz1 hz2 rfl (by decide) u7 i (flatM (rotN l b i)) rfl (by exact HO.out.alloc _) ⟨_, 0, none⟩ 1 1 [.string y.name, .int .i64 y.op, .string y.value] rfl rfl (World.news_of_block (blk_new' _ _ _ (by simp))) (fun u hu => by simp at hu; rcases hu with rfl | rfl | rfl <;> rfl) (by decide) (by unfold maxLen; omega) (by omega) (by have := hbel.out.size; simp; omega) _ rfl (fun g2 cap w6 hown6 hgr6 hor6 hlt6 => ?_))))
          go_roundg (gk - 1)
          case measure => omega
          case rel => exact ⟨i + 1, by go_num, by omega, by omega, Lib.hid (by rw [HNX.out, flatM_snoc]; exact hown6), Lib.hid ((((Chg.of_below (M := fun k => w4.heap.size ≤ k) hbel.out).alloc _).grown hgr6 (fun k hk => .inl (HO.out.lt k hk).1)).below (fun k hk h => by omega))⟩
        · obtain rfl : i = l.length := by omega
          have hc1 : decide (l.length < l.length) = false := decide_eq_false (by omega)
          have HT := Lib.hid (MS.of_row (l := rotN l b l.length) (by rw [rotN_len]; exact HO.out) (by rw [rotN_len]; omega))
          have HBO := Lib.hid (below_thn HB4.out hbel.out)
          have HCR := Lib.hid (check_mem (l := l) (m := rotN l b l.length) (fun y hy => (rot_mem b HPOS.out y).1 hy) (by rw [rotN_len]; exact h16) HC.out)
          obtain ⟨V, hV⟩ : ∃ V, holdsAll (l.map toMat) (x.map toLbl) = V := ⟨_, rfl⟩
          have HVB := Lib.hid ((holdsAll_mem (u := x.map toLbl) (rot_mem b HPOS.out)).trans hV)
          have HVA := Lib.hid hV
          clear hV hik hil HO
          go_wp2_with (first | (go_at_call 12; (fail_if_success (have := hbT1)); ((refine (to_calls _ l _ (HL.out.below HBO.out) (by omega)).mono ?_); rintro e w5 ⟨v1, rfl, hv1, hbT1⟩; have HV1 := Lib.hid hv1; have HB5 := Lib.hid (below_thn HBO.out hbT1); clear hv1)) | (go_at_call 11; (fail_if_success (have := hbN1)); ((refine (new_ok _ l _ HV1.out HC.out).mono ?_); rintro e w6 ⟨⟨ga, rfl, hsa⟩, hbN1⟩; have HSA := Lib.hid hsa; have HB6 := Lib.hid (below_thn HB5.out hbN1); clear hsa)) | (go_at_call 12; (fail_if_success (have := hbT2)); ((refine (to_calls _ (rotN l b l.length) _ ((HT.out.below hbT1).below hbN1) (by rw [rotN_len]; omega)).mono ?_); rintro e w7 ⟨v2, rfl, hv2, hbT2⟩; have HV2 := Lib.hid hv2; have HB7 := Lib.hid (below_thn HB6.out hbT2); clear hv2)) | (go_at_call 11; (fail_if_success (have := hbN2)); ((refine (new_ok _ (rotN l b l.length) _ HV2.out HCR.out).mono ?_); rintro e w8 ⟨⟨gb, rfl, hsb⟩, hbN2⟩; have HSB := Lib.hid hsb; have HB8 := Lib.hid (below_thn HB7.out hbN2); clear hsb)) | (go_at_call 13; (fail_if_success (have := hbM1)); ((refine (selMatch_calls ga l _ ((HSA.out.below hbT2).below hbN2) (check_mats HC.out) _ x (HX.out.below HB8.out) H64.out).mono ?_); rintro e w9 ⟨rfl, hbM1⟩; rw [HVA.out]; have HB9 := Lib.hid (below_thn HB8.out hbM1))) | (go_at_call 13; (fail_if_success (have := hbM2)); ((refine (selMatch_calls gb (rotN l b l.length) _ (HSB.out.below hbM1) (check_mats HCR.out) _ x (HX.out.below HB9.out) H64.out).mono ?_); rintro e w10 ⟨rfl, hbM2⟩; rw [HVB.out]; have HB10 := Lib.hid (below_thn HB9.out hbM2))))
          go_loopg [83] (l.length + 1) (fun k u83 wr => ∃ i : Nat, u83 = .int .i64 (i : Int) ∧ i + k = l.length + 1 ∧ i ≤ l.length ∧ Hid (Below w10.heap.size w10 wr))
          case atStart => exact ⟨0, rfl, by omega, by omega, Lib.hid (Below.refl _ _)⟩
          case round =>
            obtain ⟨i, rfl, hik, hil, hbel⟩ := hrel
            obtain ⟨wo, rfl⟩ : ∃ m : World, m = wr := ⟨_, rfl⟩
            by_cases hi : i < l.length
            · have hc1 : decide (i < l.length) = true := decide_eq_true hi
              have hc2 : (i : Int) < (l.length : Int) := by omega
              have hc3 : (0 : Int) ≤ (i : Int) := by omega
              obtain ⟨y, hyl⟩ : ∃ y, l[i]? = some y := ⟨_, List.getElem?_eq_getElem hi⟩
              obtain ⟨g1, o1, rfl, hrg⟩ := HM.out i y hyl
              have HRG := Lib.hid (rangeAt_below (rangeAt_below hrg HB10.out) hbel.out)
              have HME := Lib.hid (check_mats HC.out i y hyl)
              have hro : ¬ (y.op < 0 ∨ 3 < y.op) := by
                intro hh; have := HME.out; rw [matErr_range hh] at this; cases this
              have h4 : y.op = 0 ∨ y.op = 1 ∨ y.op = 2 ∨ y.op = 3 := by omega
              clear hrg hyl hro
              obtain ⟨yn, yo, yv⟩ := y
              simp only at h4
              rcases h4 with h4 | h4 | h4 | h4
              · obtain rfl : yo = 0 := h4
                unfold smCells at HRG
                have HCX : Hid (checkErr ([SM.mk yn 0 yv].map toMat) = 0) := Lib.hid (by rw [checkErr_ok]; exact ⟨by simp, fun m hm => by simp at hm; subst hm; exact HME.out⟩)
                have HCY : Hid (checkErr ([SM.mk yn 1 yv].map toMat) = 0) := Lib.hid (by rw [checkErr_ok]; exact ⟨by simp, fun m hm => by simp at hm; subst hm; exact matErr_turn HME.out⟩)
                obtain ⟨B, hB⟩ : ∃ B, holdsAll ([SM.mk yn 0 yv].map toMat) (x.map toLbl) = B := ⟨_, rfl⟩
                have hB2 : holdsAll ([SM.mk yn 1 yv].map toMat) (x.map toLbl) = !B := by rw [← hB]; exact holds_one_turn HME.out _
                have HVX := Lib.hid hB
                have HVY := Lib.hid hB2
                clear hB hB2
                have hxor : bits BinOp.xor IntKind.i64 0 1 = 1 := by first | rfl | decide
                have HYB : Hid (((wo.alloc (.cells #[.string yn, .int .i64 0, .string yv] 28)).alloc (.cells #[.string yn, .int .i64 1, .string yv] 28)).heap[wo.heap.size + 1]? = some (.cells #[.string yn, .int .i64 1, .string yv] 28 (0, 0))) := Lib.hid (blk_new' _ _ _ (by simp))
                cases B
                all_goals go_wp2_with (first | (refine wpList_load_mid rfl _ (.tmp 85) rfl g1 (o1 + i * 3) rfl _ _ HRG.out Tryd.underlying28 rfl (by kernel_rfl) ?_) | (go_at_call 11; (fail_if_success (have := hbP1)); ((refine (new_ok _ [⟨yn, 0, yv⟩] _ (MS_one ⟨yn, 0, yv⟩ (by exact blk_new' _ _ _ (by simp))) HCX.out).mono ?_); rintro e w11 ⟨⟨gp, rfl, hsp⟩, hbP1⟩; have HSP := Lib.hid hsp; have HY6 : Hid (w11.heap[wo.heap.size + 1]? = some (.cells #[.string yn, .int .i64 1, .string yv] 28 (0, 0))) := Lib.hid (blk_below hbP1 (by exact blk_alloc HYB.out _)); have k0 : w11.cell? ⟨wo.heap.size + 1, 0, none⟩ = some (.string yn) := (blk_cell HY6.out).trans rfl; have k1 : w11.cell? ⟨wo.heap.size + 1, 1, none⟩ = some (.int .i64 1) := (blk_cell HY6.out).trans rfl; have k2 : w11.cell? ⟨wo.heap.size + 1, 2, none⟩ = some (.string yv) := (blk_cell HY6.out).trans rfl; clear hsp)) | (go_at_call 11; (fail_if_success (have := hbQ1)); ((refine (new_ok _ [⟨yn, 1, yv⟩] _ (MS_one ⟨yn, 1, yv⟩ (by exact blk_new' _ _ _ (by simp))) HCY.out).mono ?_); rintro e w12 ⟨⟨gq, rfl, hsq⟩, hbQ1⟩; have HSQ := Lib.hid hsq; have HB12 : Hid (Below w10.heap.size w10 w12) := Lib.hid (below_thn (below_thn (Chg.below (Chg.alloc (Chg.alloc (Chg.alloc (Chg.of_below (M := fun k => w10.heap.size ≤ k) hbel.out) _) _) _) (fun k hk h => by omega)) hbP1) (below_thn (Below.alloc (Below.refl _ _) (Nat.le_refl _) _) hbQ1)); clear hsq)) | (go_at_call 13; (fail_if_success (have := hbP2)); ((refine (selMatch_calls gp [⟨yn, 0, yv⟩] _ ((HSP.out.below (Below.alloc (Below.refl _ _) (Nat.le_refl _) _)).below hbQ1) (check_mats HCX.out) _ x (HX.out.below (below_thn HB10.out HB12.out)) H64.out).mono ?_); rintro e w13 ⟨rfl, hbP2⟩; rw [HVX.out])) | (go_at_call 13; (fail_if_success (have := hbQ2)); ((refine (selMatch_calls gq [⟨yn, 1, yv⟩] _ (HSQ.out.below hbP2) (check_mats HCY.out) _ x ((HX.out.below (below_thn HB10.out HB12.out)).below hbP2) H64.out).mono ?_); rintro e w14 ⟨rfl, hbQ2⟩; rw [HVY.out])))
                all_goals go_roundg (gk - 1)
                all_goals first | (case measure => omega) | skip
                all_goals first | (case rel => exact ⟨i + 1, by go_num, by omega, by omega, Lib.hid (below_thn (below_thn HB12.out hbP2) hbQ2)⟩) | skip
              · obtain rfl : yo = 1 := h4
                unfold smCells at HRG
                have HCX : Hid (checkErr ([SM.mk yn 1 yv].map toMat) = 0) := Lib.hid (by rw [checkErr_ok]; exact ⟨by simp, fun m hm => by simp at hm; subst hm; exact HME.out⟩)
                have HCY : Hid (checkErr ([SM.mk yn 0 yv].map toMat) = 0) := Lib.hid (by rw [checkErr_ok]; exact ⟨by simp, fun m hm => by simp at hm; subst hm; exact matErr_turn HME.out⟩)
                obtain ⟨B, hB⟩ : ∃ B, holdsAll ([SM.mk yn 1 yv].map toMat) (x.map toLbl) = B := ⟨_, rfl⟩
                have hB2 : holdsAll ([SM.mk yn 0 yv].map toMat) (x.map toLbl) = !B := by rw [← hB]; exact holds_one_turn HME.out _
                have HVX := Lib.hid hB
                have HVY := Lib.hid hB2
                clear hB hB2
                have hxor : bits BinOp.xor IntKind.i64 1 1 = 0 := by first | rfl | decide
                have HYB : Hid (((wo.alloc (.cells #[.string yn, .int .i64 1, .string yv] 28)).alloc (.cells #[.string yn, .int .i64 0, .string yv] 28)).heap[wo.heap.size + 1]? = some (.cells #[.string yn, .int .i64 0, .string yv] 28 (0, 0))) := Lib.hid (blk_new' _ _ _ (by simp))
                cases B
                all_goals go_wp2_with (first | (refine wpList_load_mid rfl _ (.tmp 85) rfl g1 (o1 + i * 3) rfl _ _ HRG.out Tryd.underlying28 rfl (by kernel_rfl) ?_) | (go_at_call 11; (fail_if_success (have := hbP1)); ((refine (new_ok _ [⟨yn, 1, yv⟩] _ (MS_one ⟨yn, 1, yv⟩ (by exact blk_new' _ _ _ (by simp))) HCX.out).mono ?_); rintro e w11 ⟨⟨gp, rfl, hsp⟩, hbP1⟩; have HSP := Lib.hid hsp; have HY6 : Hid (w11.heap[wo.heap.size + 1]? = some (.cells #[.string yn, .int .i64 0, .string yv] 28 (0, 0))) := Lib.hid (blk_below hbP1 (by exact blk_alloc HYB.out _)); have k0 : w11.cell? ⟨wo.heap.size + 1, 0, none⟩ = some (.string yn) := (blk_cell HY6.out).trans rfl; have k1 : w11.cell? ⟨wo.heap.size + 1, 1, none⟩ = some (.int .i64 0) := (blk_cell HY6.out).trans rfl; have k2 : w11.cell? ⟨wo.heap.size + 1, 2, none⟩ = some (.string yv) := (blk_cell HY6.out).trans rfl; clear hsp)) | (go_at_call 11; (fail_if_success (have := hbQ1)); ((refine (new_ok _ [⟨yn, 0, yv⟩] _ (MS_one ⟨yn, 0, yv⟩ (by exact blk_new' _ _ _ (by simp))) HCY.out).mono ?_); rintro e w12 ⟨⟨gq, rfl, hsq⟩, hbQ1⟩; have HSQ := Lib.hid hsq; have HB12 : Hid (Below w10.heap.size w10 w12) := Lib.hid (below_thn (below_thn (Chg.below (Chg.alloc (Chg.alloc (Chg.alloc (Chg.of_below (M := fun k => w10.heap.size ≤ k) hbel.out) _) _) _) (fun k hk h => by omega)) hbP1) (below_thn (Below.alloc (Below.refl _ _) (Nat.le_refl _) _) hbQ1)); clear hsq)) | (go_at_call 13; (fail_if_success (have := hbP2)); ((refine (selMatch_calls gp [⟨yn, 1, yv⟩] _ ((HSP.out.below (Below.alloc (Below.refl _ _) (Nat.le_refl _) _)).below hbQ1) (check_mats HCX.out) _ x (HX.out.below (below_thn HB10.out HB12.out)) H64.out).mono ?_); rintro e w13 ⟨rfl, hbP2⟩; rw [HVX.out])) | (go_at_call 13; (fail_if_success (have := hbQ2)); ((refine (selMatch_calls gq [⟨yn, 0, yv⟩] _ (HSQ.out.below hbP2) (check_mats HCY.out) _ x ((HX.out.below (below_thn HB10.out HB12.out)).below hbP2) H64.out).mono ?_); rintro e w14 ⟨rfl, hbQ2⟩; rw [HVY.out])))
                all_goals go_roundg (gk - 1)
                all_goals first | (case measure => omega) | skip
                all_goals first | (case rel => exact ⟨i + 1, by go_num, by omega, by omega, Lib.hid (below_thn (below_thn HB12.out hbP2) hbQ2)⟩) | skip
              · obtain rfl : yo = 2 := h4
                unfold smCells at HRG
                have HCX : Hid (checkErr ([SM.mk yn 2 yv].map toMat) = 0) := Lib.hid (by rw [checkErr_ok]; exact ⟨by simp, fun m hm => by simp at hm; subst hm; exact HME.out⟩)
                have HCY : Hid (checkErr ([SM.mk yn 3 yv].map toMat) = 0) := Lib.hid (by rw [checkErr_ok]; exact ⟨by simp, fun m hm => by simp at hm; subst hm; exact matErr_turn HME.out⟩)
                obtain ⟨B, hB⟩ : ∃ B, holdsAll ([SM.mk yn 2 yv].map toMat) (x.map toLbl) = B := ⟨_, rfl⟩
                have hB2 : holdsAll ([SM.mk yn 3 yv].map toMat) (x.map toLbl) = !B := by rw [← hB]; exact holds_one_turn HME.out _
                have HVX := Lib.hid hB
                have HVY := Lib.hid hB2
                clear hB hB2
                have hxor : bits BinOp.xor IntKind.i64 2 1 = 3 := by first | rfl | decide
                have HYB : Hid (((wo.alloc (.cells #[.string yn, .int .i64 2, .string yv] 28)).alloc (.cells #[.string yn, .int .i64 3, .string yv] 28)).heap[wo.heap.size + 1]? = some (.cells #[.string yn, .int .i64 3, .string yv] 28 (0, 0))) := Lib.hid (blk_new' _ _ _ (by simp))
                cases B
                all_goals go_wp2_with (first | (refine wpList_load_mid rfl _ (.tmp 85) rfl g1 (o1 + i * 3) rfl _ _ HRG.out Tryd.underlying28 rfl (by kernel_rfl) ?_) | (go_at_call 11; (fail_if_success (have := hbP1)); ((refine (new_ok _ [⟨yn, 2, yv⟩] _ (MS_one ⟨yn, 2, yv⟩ (by exact blk_new' _ _ _ (by simp))) HCX.out).mono ?_); rintro e w11 ⟨⟨gp, rfl, hsp⟩, hbP1⟩; have HSP := Lib.hid hsp; have HY6 : Hid (w11.heap[wo.heap.size + 1]? = some (.cells #[.string yn, .int .i64 3, .string yv] 28 (0, 0))) := Lib.hid (blk_below hbP1 (by exact blk_alloc HYB.out _)); have k0 : w11.cell? ⟨wo.heap.size + 1, 0, none⟩ = some (.string yn) := (blk_cell HY6.out).trans rfl; have k1 : w11.cell? ⟨wo.heap.size + 1, 1, none⟩ = some (.int .i64 3) := (blk_cell HY6.out).trans rfl; have k2 : w11.cell? ⟨wo.heap.size + 1, 2, none⟩ = some (.string yv) := (blk_cell HY6.out).trans rfl; clear hsp)) | (go_at_call 11; (fail_if_success (have := hbQ1)); ((refine (new_ok _ [⟨yn, 3, yv⟩] _ (MS_one ⟨yn, 3, yv⟩ (by exact blk_new' _ _ _ (by simp))) HCY.out).mono ?_); rintro e w12 ⟨⟨gq, rfl, hsq⟩, hbQ1⟩; have HSQ := Lib.hid hsq; have HB12 : Hid (Below w10.heap.size w10 w12) := Lib.hid (below_thn (below_thn (Chg.below (Chg.alloc (Chg.alloc (Chg.alloc (Chg.of_below (M := fun k => w10.heap.size ≤ k) hbel.out) _) _) _) (fun k hk h => by omega)) hbP1) (below_thn (Below.alloc (Below.refl _ _) (Nat.le_refl _) _) hbQ1)); clear hsq)) | (go_at_call 13; (fail_if_success (have := hbP2)); ((refine (selMatch_calls gp [⟨yn, 2, yv⟩] _ ((HSP.out.below (Below.alloc (Below.refl _ _) (Nat.le_refl _) _)).below hbQ1) (check_mats HCX.out) _ x (HX.out.below (below_thn HB10.out HB12.out)) H64.out).mono ?_); rintro e w13 ⟨rfl, hbP2⟩; rw [HVX.out])) | (go_at_call 13; (fail_if_success (have := hbQ2)); ((refine (selMatch_calls gq [⟨yn, 3, yv⟩] _ (HSQ.out.below hbP2) (check_mats HCY.out) _ x ((HX.out.below (below_thn HB10.out HB12.out)).below hbP2) H64.out).mono ?_); rintro e w14 ⟨rfl, hbQ2⟩; rw [HVY.out])))
                all_goals go_roundg (gk - 1)
                all_goals first | (case measure => omega) | skip
                all_goals first | (case rel => exact ⟨i + 1, by go_num, by omega, by omega, Lib.hid (below_thn (below_thn HB12.out hbP2) hbQ2)⟩) | skip
              · obtain rfl : yo = 3 := h4
                unfold smCells at HRG
                have HCX : Hid (checkErr ([SM.mk yn 3 yv].map toMat) = 0) := Lib.hid (by rw [checkErr_ok]; exact ⟨by simp, fun m hm => by simp at hm; subst hm; exact HME.out⟩)
                have HCY : Hid (checkErr ([SM.mk yn 2 yv].map toMat) = 0) := Lib.hid (by rw [checkErr_ok]; exact ⟨by simp, fun m hm => by simp at hm; subst hm; exact matErr_turn HME.out⟩)
                obtain ⟨B, hB⟩ : ∃ B, holdsAll ([SM.mk yn 3 yv].map toMat) (x.map toLbl) = B := ⟨_, rfl⟩
                have hB2 : holdsAll ([SM.mk yn 2 yv].map toMat) (x.map toLbl) = !B := by rw [← hB]; exact holds_one_turn HME.out _
                have HVX := Lib.hid hB
                have HVY := Lib.hid hB2
                clear hB hB2
                have hxor : bits BinOp.xor IntKind.i64 3 1 = 2 := by first | rfl | decide
                have HYB : Hid (((wo.alloc (.cells #[.string yn, .int .i64 3, .string yv] 28)).alloc (.cells #[.string yn, .int .i64 2, .string yv] 28)).heap[wo.heap.size + 1]? = some (.cells #[.string yn, .int .i64 2, .string yv] 28 (0, 0))) := Lib.hid (blk_new' _ _ _ (by simp))
                cases B
                all_goals go_wp2_with (first | (refine wpList_load_mid rfl _ (.tmp 85) rfl g1 (o1 + i * 3) rfl _ _ HRG.out Tryd.underlying28 rfl (by kernel_rfl) ?_) | (go_at_call 11; (fail_if_success (have := hbP1)); ((refine (new_ok _ [⟨yn, 3, yv⟩] _ (MS_one ⟨yn, 3, yv⟩ (by exact blk_new' _ _ _ (by simp))) HCX.out).mono ?_); rintro e w11 ⟨⟨gp, rfl, hsp⟩, hbP1⟩; have HSP := Lib.hid hsp; have HY6 : Hid (w11.heap[wo.heap.size + 1]? = some (.cells #[.string yn, .int .i64 2, .string yv] 28 (0, 0))) := Lib.hid (blk_below hbP1 (by exact blk_alloc HYB.out _)); have k0 : w11.cell? ⟨wo.heap.size + 1, 0, none⟩ = some (.string yn) := (blk_cell HY6.out).trans rfl; have k1 : w11.cell? ⟨wo.heap.size + 1, 1, none⟩ = some (.int .i64 2) := (blk_cell HY6.out).trans rfl; have k2 : w11.cell? ⟨wo.heap.size + 1, 2, none⟩ = some (.string yv) := (blk_cell HY6.out).trans rfl; clear hsp)) | (go_at_call 11; (fail_if_success (have := hbQ1)); ((refine (new_ok _ [⟨yn, 2, yv⟩] _ (MS_one ⟨yn, 2, yv⟩ (by exact blk_new' _ _ _ (by simp))) HCY.out).mono ?_); rintro e w12 ⟨⟨gq, rfl, hsq⟩, hbQ1⟩; have HSQ := Lib.hid hsq; have HB12 : Hid (Below w10.heap.size w10 w12) := Lib.hid (below_thn (below_thn (Chg.below (Chg.alloc (Chg.alloc (Chg.alloc (Chg.of_below (M := fun k => w10.heap.size ≤ k) hbel.out) _) _) _) (fun k hk h => by omega)) hbP1) (below_thn (Below.alloc (Below.refl _ _) (Nat.le_refl _) _) hbQ1)); clear hsq)) | (go_at_call 13; (fail_if_success (have := hbP2)); ((refine (selMatch_calls gp [⟨yn, 3, yv⟩] _ ((HSP.out.below (Below.alloc (Below.refl _ _) (Nat.le_refl _) _)).below hbQ1) (check_mats HCX.out) _ x (HX.out.below (below_thn HB10.out HB12.out)) H64.out).mono ?_); rintro e w13 ⟨rfl, hbP2⟩; rw [HVX.out])) | (go_at_call 13; (fail_if_success (have := hbQ2)); ((refine (selMatch_calls gq [⟨yn, 2, yv⟩] _ (HSQ.out.below hbP2) (check_mats HCY.out) _ x ((HX.out.below (below_thn HB10.out HB12.out)).below hbP2) H64.out).mono ?_); rintro e w14 ⟨rfl, hbQ2⟩; rw [HVY.out])))
                all_goals go_roundg (gk - 1)
                all_goals first | (case measure => omega) | skip
                all_goals first | (case rel => exact ⟨i + 1, by go_num, by omega, by omega, Lib.hid (below_thn (below_thn HB12.out hbP2) hbQ2)⟩) | skip
            · obtain rfl : i = l.length := by omega
              have hc1 : decide (l.length < l.length) = false := decide_eq_false (by omega)
              have HW := Lib.hid (awake12_calls wo ((ho.below HB10.out).below hbel.out))
              go_wp2_with (go_at_call 10; (fail_if_success (have := hbW)); ((refine (HW.out).mono ?_); rintro e w15 ⟨rfl, hbW⟩))
              go_ret
              exact ⟨rfl, below_thn (below_thn HB10.out hbel.out) hbW⟩
  · obtain ⟨C, hC⟩ : ∃ C, checkErr (l.map toMat) = C := ⟨_, rfl⟩
    have HC := Lib.hid hC
    have hcz : ((C : Int) == 0) = false := by simp; intro h; exact hc (by rw [hC]; exact h)
    clear hc hz hC
    go_enter Tryd.func3, Tryd.ntmps3
    go_wp2_with (first | (go_at_call 8; (fail_if_success (have := hbL)); ((refine (light_calls _ _ l x _ HL.out HX.out).mono ?_); rintro e w3 ⟨lb, rfl, hlb, hbL⟩; cases lb)) | (go_at_call 9; (fail_if_success (have := hbK)); ((refine (check_calls _ l _ (HL.out.below hbL)).mono ?_); rintro e w4 ⟨rfl, hbK⟩; rw [HC.out])) | (go_at_call 10; (fail_if_success (have := hbW)); ((refine (awake12_calls _ (by first | exact (ho.below hbL).below hbK | exact ho.below hbL)).mono ?_); rintro e w9 ⟨rfl, hbW⟩)))
    all_goals go_ret
    all_goals exact ⟨rfl, by first | exact below_thn (below_thn hbL hbK) hbW | exact below_thn hbL hbW⟩
end Go.Proofs.YtmlmnckhiianhaaDoor
