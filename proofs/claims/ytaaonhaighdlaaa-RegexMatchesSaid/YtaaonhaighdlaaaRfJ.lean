/- The document's matcher: places of both, walked. -/
import Derived.Test.YtaaonhaighdlaaaRfI
import Derived.Test.YtaaonhaighdlaaaRfE
namespace Go.Proofs.Ytaaonhaighdlaaa
open Go.RowKit
set_option linter.unusedVariables false
set_option linter.unusedSimpArgs false

/-- A slice of N answers. -/
def BS (w : World) (v : Value) (N : Nat) (F : Nat → Bool) : Prop := ∃ (g c : Nat) (cs : Array Value), v = .slice (some ⟨g, 0, none⟩) N c ∧ N ≤ c ∧ w.heap[g]? = some (.cells cs 4 (0, 0)) ∧ ∀ i, i < N → cs[i]? = some (.bool (F i))
theorem BS.below {w w' : World} {v : Value} {N : Nat} {F : Nat → Bool} (h : BS w v N F) (hb : Below w.heap.size w w') : BS w' v N F := by
  obtain ⟨g, c, cs, h1, h2, h3, h4⟩ := h
  exact ⟨g, c, cs, h1, h2, (hb.block g (blk_lt h3)).trans h3, h4⟩
theorem BS.congr {w : World} {v : Value} {N : Nat} {F G : Nat → Bool} (h : BS w v N F) (he : ∀ i, i < N → F i = G i) : BS w v N G := by
  obtain ⟨g, c, cs, h1, h2, h3, h4⟩ := h
  exact ⟨g, c, cs, h1, h2, h3, fun i hi => by rw [h4 i hi, he i hi]⟩
theorem BS.of_bools {w : World} {g : Nat} {bs : List Bool} (h : Bools w g bs) : BS w (.slice (some ⟨g, 0, none⟩) bs.length bs.length) bs.length (fun i => bs.getD i false) :=
  ⟨g, _, _, rfl, Nat.le_refl _, h, fun i hi => by
    rw [List.getElem?_toArray, List.getElem?_map, List.getElem?_eq_getElem hi]
    simp [List.getD, List.getElem?_eq_getElem hi]⟩
theorem BS.sl {w : World} {v : Value} {N : Nat} {F : Nat → Bool} (h : BS w v N F) : ∃ (A : Option Addr) (n c : Nat), v = .slice A n c := by
  obtain ⟨g, c, cs, h1, _⟩ := h
  exact ⟨_, _, _, h1⟩
theorem below_then {a b c : World} (h : Below a.heap.size a b) (k : Below b.heap.size b c) : Below a.heap.size a c :=
  h.trans ⟨k.os, k.tape, k.output, k.size, fun i hi => k.block i (Nat.lt_of_lt_of_le hi h.size)⟩
def orRow (F : Nat → Bool) (i : Nat) : List Value := (List.range i).map fun j => .bool (F j)
theorem orRow_succ (F : Nat → Bool) (i : Nat) : orRow F (i + 1) = orRow F i ++ [.bool (F i)] := by simp [orRow, List.range_succ]
theorem orRow_len (F : Nat → Bool) (i : Nat) : (orRow F i).length = i := by simp [orRow]
theorem BS.of_row {w : World} {B : Nat} {v : Value} {N : Nat} {F : Nat → Bool} (h : w.ownsRow B 4 1 v N (orRow F N)) (hN : 0 < N) : BS w v N F := by
  rcases h.2 with ⟨_, h0⟩ | ⟨g, cap, cur, hv, hB, hg, h1, h2, h3, h4⟩
  · omega
  · refine ⟨g, cap, cur, hv, h1, hg, fun i hi => ?_⟩
    have e : cur[i]? = (orRow F N)[i]? := by rw [← h4, List.getElem?_take_of_lt (by omega)]; simp
    rw [e, orRow, List.getElem?_map, List.getElem?_range hi]; rfl

set_option maxRecDepth 100000 in
set_option maxHeartbeats 4000000 in
theorem or_calls (a b : Value) (N : Nat) (Fa Fb : Nat → Bool) (w : World) (hN : 0 < N) (hN2 : N ≤ 100) (ha : BS w a N Fa) (hb : BS w b N Fb) :
    Calls Try.prog 35 #[a, b] w fun e w' => ∃ v, e = .returned v ∧ BS w' v N (fun i => Fa i || Fb i) ∧ Below w.heap.size w w' := by
  obtain ⟨i0, hinf, hz0, hz1, hz2⟩ := info_parts Try.infoBool
  obtain ⟨ga, ca, csa, rfl, ha2, ha3, ha4⟩ := ha
  obtain ⟨gb, cb, csb, rfl, hb2, hb3, hb4⟩ := hb
  have HA3 := Lib.hid ha3
  have HB3 := Lib.hid hb3
  have HA4 := Lib.hid ha4
  have HB4 := Lib.hid hb4
  clear ha3 hb3 ha4 hb4
  go_enter Try.func35, Try.ntmps35
  go_wp2
  generalize hF : (fun i => Fa i || Fb i) = F
  have HF : Hid (∀ i, F i = (Fa i || Fb i)) := Lib.hid (fun i => by rw [← hF])
  clear hF
  go_loopg [5, 6] (N + 1) (fun k u5 u6 wr => ∃ (i : Nat), u6 = .int .i64 (i : Int) ∧ i + k = N + 1 ∧ i ≤ N ∧ Hid (wr.ownsRow w.heap.size 4 1 u5 i (orRow F i)) ∧ Below w.heap.size w wr)
  case atStart => exact ⟨0, rfl, by omega, by omega, Lib.hid ⟨rfl, .inl ⟨rfl, rfl⟩⟩, Below.refl _ _⟩
  case round =>
    obtain ⟨i, rfl, hik, hiN, HO, hbel⟩ := hrel
    obtain ⟨wo, rfl⟩ : ∃ m : World, m = wr := ⟨_, rfl⟩
    by_cases hi : i < N
    · have hc1 : decide (i < N) = true := decide_eq_true hi
      have hi1 : (0 : Int) ≤ (i : Int) := by omega
      have hi2 : (i : Int) < (N : Int) := by omega
      have hca : wo.cell? ⟨ga, i, none⟩ = some (.bool (Fa i)) := (blk_cell ((hbel.block ga (blk_lt HA3.out)).trans HA3.out)).trans (HA4.out i hi)
      have hcb : wo.cell? ⟨gb, i, none⟩ = some (.bool (Fb i)) := (blk_cell ((hbel.block gb (blk_lt HB3.out)).trans HB3.out)).trans (HB4.out i hi)
      have HFi := Lib.hid (HF.out i)
      generalize Fa i = A at *
      generalize Fb i = B at *
      cases A with
      | true =>
        go_wp2_with (at_builtin; refine wpList_append_lies _ rfl (.tmp 13) (.tmp 24) 37 rfl w.heap.size 4 i0 (.bool false) 1 1 Try.underlying37 hinf hz0 hz1 hz2 rfl (by decide) u5 i (orRow F i) rfl (by exact HO.out.alloc _) ⟨_, 0, none⟩ 1 1 [.bool true] rfl rfl (World.news_of_block (blk_new' _ _ _ (by simp))) (fun u hu => by simp at hu; subst hu; rfl) (by decide) (by unfold maxLen; omega) (by omega) (by have := hbel.size; simp; omega) _ rfl (fun g1 cap w3 hown3 hgr3 hor3 hlt3 => ?_))
        go_roundg (gk - 1)
        case measure => omega
        case rel => exact ⟨i + 1, by go_num, by omega, by omega, Lib.hid (by rw [orRow_succ, HFi.out]; exact hown3), ((Chg.of_below (M := fun k => w.heap.size ≤ k) hbel).alloc _ |>.grown hgr3 (fun k hk => .inr (HO.out.lt k hk).1)).below (fun k hk h => by omega)⟩
      | false =>
        go_wp2_with (at_builtin; refine wpList_append_lies _ rfl (.tmp 13) (.tmp 24) 37 rfl w.heap.size 4 i0 (.bool false) 1 1 Try.underlying37 hinf hz0 hz1 hz2 rfl (by decide) u5 i (orRow F i) rfl (by exact HO.out.alloc _) ⟨_, 0, none⟩ 1 1 [.bool B] rfl rfl (World.news_of_block (blk_new' _ _ _ (by simp))) (fun u hu => by simp at hu; subst hu; rfl) (by decide) (by unfold maxLen; omega) (by omega) (by have := hbel.size; simp; omega) _ rfl (fun g1 cap w3 hown3 hgr3 hor3 hlt3 => ?_))
        go_roundg (gk - 1)
        case measure => omega
        case rel => exact ⟨i + 1, by go_num, by omega, by omega, Lib.hid (by rw [orRow_succ, HFi.out]; exact hown3), ((Chg.of_below (M := fun k => w.heap.size ≤ k) hbel).alloc _ |>.grown hgr3 (fun k hk => .inr (HO.out.lt k hk).1)).below (fun k hk h => by omega)⟩
    · have hc1 : decide (i < N) = false := decide_eq_false hi
      obtain rfl : i = N := by omega
      go_wp2
      go_ret
      exact ⟨u5, rfl, (BS.of_row HO.out hN).congr fun j _ => HF.out j, hbel⟩
end Go.Proofs.Ytaaonhaighdlaaa
