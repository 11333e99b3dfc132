/- The document's matcher: any pattern; all of a text. -/
import Derived.Test.YtmlmnckhiianhaaDoorRxT
import Derived.Test.YtmlmnckhiianhaaDoorRfE
import Derived.Test.YtmlmnckhiianhaaDoorRfH
import Derived.Test.YtmlmnckhiianhaaDoorShelf
namespace Go.Proofs.YtmlmnckhiianhaaDoor
set_option linter.unusedVariables false
namespace Rx

/-- The piece of u from b to e. -/
def sub (u : List Nat) (b e : Nat) : List Nat := (u.drop b).take (e - b)
theorem sub_nil (u : List Nat) (b : Nat) : sub u b b = [] := by simp [sub]
theorem sub_app (u : List Nat) {b m e : Nat} (h1 : b ≤ m) (h2 : m ≤ e) : sub u b e = sub u b m ++ sub u m e := by
  unfold sub
  have e1 : e - b = (m - b) + (e - m) := by omega
  rw [e1, List.take_add, List.drop_drop]
  congr 3
  omega
theorem sub_len {u : List Nat} {b e : Nat} (h1 : b ≤ e) (h2 : e ≤ u.length) : (sub u b e).length = e - b := by
  unfold sub
  rw [List.length_take, List.length_drop]; omega
theorem sub_cut {u : List Nat} {b e : Nat} (h1 : b ≤ e) (h2 : e ≤ u.length) {x y : List Nat} (h : sub u b e = x ++ y) : b + x.length ≤ e ∧ x = sub u b (b + x.length) ∧ y = sub u (b + x.length) e := by
  have hl := sub_len h1 h2
  rw [h, List.length_append] at hl
  have hm : b + x.length ≤ e := by omega
  have hs := sub_app u (show b ≤ b + x.length by omega) hm
  rw [h] at hs
  have hx : x.length = (sub u b (b + x.length)).length := by rw [sub_len (by omega) (by omega)]; omega
  obtain ⟨e1, e2⟩ := List.append_inj hs hx
  exact ⟨hm, e1, e2⟩
theorem sub_all (u : List Nat) : sub u 0 u.length = u := by simp [sub]
theorem sub_one {u : List Nat} {i c : Nat} (h : u[i]? = some c) : sub u i (i + 1) = [c] := by
  unfold sub
  rw [Nat.add_sub_cancel_left]
  have hl := (List.getElem?_eq_some_iff.1 h).1
  rw [List.drop_eq_getElem_cons hl]
  have : u[i] = c := by rw [List.getElem?_eq_getElem hl] at h; injection h
  rw [this]; rfl

/-- A part that begins at one of F's places may end at e. -/
def stp (x : Rx) (u : List Nat) (F : Nat → Bool) (e : Nat) : Prop := ∃ b, b ≤ e ∧ F b = true ∧ L x (sub u b e)
theorem stp_mono {x : Rx} {u : List Nat} {F G : Nat → Bool} {e : Nat} (hf : ∀ b, b ≤ e → F b = true → G b = true) (h : stp x u F e) : stp x u G e := by
  obtain ⟨b, h1, h2, h3⟩ := h
  exact ⟨b, h1, hf b h1 h2, h3⟩

theorem stp_byte {u : List Nat} {F : Nat → Bool} {P : Nat → Bool} {e : Nat} (he : e ≤ u.length) : stp (.byte P) u F e ↔ ∃ i c, e = i + 1 ∧ u[i]? = some c ∧ F i = true ∧ P c = true := by
  constructor
  · rintro ⟨b, h1, h2, c, h3, h4⟩
    have hl := sub_len h1 he
    rw [h3] at hl
    simp at hl
    have e1 : e = b + 1 := by omega
    subst e1
    have hb : b < u.length := by omega
    rw [sub_one (List.getElem?_eq_getElem hb)] at h3
    injection h3 with h3
    subst h3
    exact ⟨b, _, rfl, List.getElem?_eq_getElem hb, h2, h4⟩
  · rintro ⟨i, c, rfl, h1, h2, h3⟩
    exact ⟨i, by omega, h2, c, sub_one h1, h3⟩
theorem stp_row_nil {u : List Nat} {F : Nat → Bool} {e : Nat} (he : e ≤ u.length) : stp (.row []) u F e ↔ F e = true := by
  constructor
  · rintro ⟨b, h1, h2, h3⟩
    have h3 : sub u b e = [] := h3
    have hl := sub_len h1 he
    rw [h3] at hl
    simp at hl
    have : b = e := by omega
    subst this
    exact h2
  · intro h
    exact ⟨e, Nat.le_refl _, h, by unfold L LRow; exact sub_nil u e⟩
theorem stp_row_cons {u : List Nat} {F G : Nat → Bool} {x : Rx} {l : List Rx} {e : Nat} (he : e ≤ u.length) (hG : ∀ m, m ≤ u.length → (G m = true ↔ stp x u F m)) : stp (.row (x :: l)) u F e ↔ stp (.row l) u G e := by
  constructor
  · rintro ⟨b, h1, h2, h3⟩
    have h3 : LRow (x :: l) (sub u b e) := h3
    unfold LRow at h3
    obtain ⟨p, q, h4, h5, h6⟩ := h3
    obtain ⟨hm, e1, e2⟩ := sub_cut h1 he h4
    refine ⟨b + p.length, hm, (hG _ (by omega)).2 ⟨b, by omega, h2, by rw [← e1]; exact h5⟩, ?_⟩
    show LRow l _
    rw [← e2]; exact h6
  · rintro ⟨m, h1, h2, h3⟩
    obtain ⟨b, h4, h5, h6⟩ := (hG m (by omega)).1 h2
    refine ⟨b, by omega, h5, ?_⟩
    show LRow (x :: l) _
    unfold LRow
    exact ⟨_, _, sub_app u h4 h1, h6, h3⟩
theorem stp_any {u : List Nat} {F : Nat → Bool} {l : List Rx} {e : Nat} : stp (.either l) u F e ↔ ∃ x, x ∈ l ∧ stp x u F e := by
  have hA : ∀ (l : List Rx) (v : List Nat), LAny l v ↔ ∃ x, x ∈ l ∧ L x v := by
    intro l v
    induction l with
    | nil => simp [LAny]
    | cons a l ih => simp [LAny, ih]
  constructor
  · rintro ⟨b, h1, h2, h3⟩
    obtain ⟨x, hx, hl⟩ := (hA l _).1 h3
    exact ⟨x, hx, b, h1, h2, hl⟩
  · rintro ⟨x, hx, b, h1, h2, h3⟩
    exact ⟨b, h1, h2, (hA l _).2 ⟨x, hx, h3⟩⟩
theorem stp_maybe {u : List Nat} {F : Nat → Bool} {x : Rx} {e : Nat} (he : e ≤ u.length) : stp (.maybe x) u F e ↔ F e = true ∨ stp x u F e := by
  constructor
  · rintro ⟨b, h1, h2, h3⟩
    have h3 : sub u b e = [] ∨ L x (sub u b e) := h3
    rcases h3 with h3 | h3
    · have hl := sub_len h1 he
      rw [h3] at hl
      simp at hl
      have : b = e := by omega
      subst this
      exact .inl h2
    · exact .inr ⟨b, h1, h2, h3⟩
  · rintro (h | ⟨b, h1, h2, h3⟩)
    · exact ⟨e, Nat.le_refl _, h, .inl (sub_nil u e)⟩
    · exact ⟨b, h1, h2, .inr h3⟩

theorem star_close {u : List Nat} {x : Rx} {O : Nat → Bool} (hc : ∀ e, e ≤ u.length → stp x u O e → O e = true) {v : List Nat} (hs : Star (L x) v) : ∀ (b e : Nat), b ≤ e → e ≤ u.length → O b = true → sub u b e = v → O e = true := by
  induction hs with
  | nil =>
    intro b e h1 h2 h3 h4
    have hl := sub_len h1 h2
    rw [h4] at hl
    simp at hl
    have : b = e := by omega
    subst this
    exact h3
  | cons ha _ ih =>
    intro b e h1 h2 h3 h4
    obtain ⟨hm, e1, e2⟩ := sub_cut h1 h2 h4
    exact ih _ e hm h2 (hc _ (by omega) ⟨b, by omega, h3, by rw [← e1]; exact ha⟩) e2.symm
/-- Whatever has F's places and is closed has all that star means. -/
theorem star_least {u : List Nat} {x : Rx} {F O : Nat → Bool} (hF : ∀ e, e ≤ u.length → F e = true → O e = true) (hc : ∀ e, e ≤ u.length → stp x u O e → O e = true) {e : Nat} (he : e ≤ u.length) (h : stp (.star x) u F e) : O e = true := by
  obtain ⟨b, h1, h2, h3⟩ := h
  exact star_close hc (show Star (L x) _ from h3) b e h1 he (hF b (by omega) h2) rfl
theorem plus_least {u : List Nat} {x : Rx} {F O : Nat → Bool} (hF : ∀ e, e ≤ u.length → stp x u F e → O e = true) (hc : ∀ e, e ≤ u.length → stp x u O e → O e = true) {e : Nat} (he : e ≤ u.length) (h : stp (.plus x) u F e) : O e = true := by
  obtain ⟨b, h1, h2, h3⟩ := h
  have h3 : ∃ p q, sub u b e = p ++ q ∧ L x p ∧ Star (L x) q := h3
  obtain ⟨p, q, h4, h5, h6⟩ := h3
  obtain ⟨hm, e1, e2⟩ := sub_cut h1 he h4
  exact star_close hc h6 _ e hm he (hF _ (by omega) ⟨b, by omega, h2, by rw [← e1]; exact h5⟩) e2.symm
theorem Star.snoc {P : List Nat → Prop} {a b : List Nat} (h : Star P a) (hb : P b) : Star P (a ++ b) := by
  induction h with
  | nil => have := Star.cons hb .nil; simpa using this
  | cons ha _ ih => rw [List.append_assoc]; exact .cons ha ih
theorem star_self {u : List Nat} {x : Rx} {F : Nat → Bool} {e : Nat} (h : F e = true) : stp (.star x) u F e := ⟨e, Nat.le_refl _, h, by show Star (L x) _; rw [sub_nil]; exact .nil⟩
theorem star_step {u : List Nat} {x : Rx} {F O : Nat → Bool} (hO : ∀ e, e ≤ u.length → O e = true → stp (.star x) u F e) {e : Nat} (he : e ≤ u.length) (h : stp x u O e) : stp (.star x) u F e := by
  obtain ⟨m, h1, h2, h3⟩ := h
  obtain ⟨b, h4, h5, h6⟩ := hO m (by omega) h2
  refine ⟨b, by omega, h5, ?_⟩
  show Star (L x) _
  rw [sub_app u h4 h1]
  exact Star.snoc (show Star (L x) _ from h6) h3
theorem plus_self {u : List Nat} {x : Rx} {F : Nat → Bool} {e : Nat} (h : stp x u F e) : stp (.plus x) u F e := by
  obtain ⟨b, h1, h2, h3⟩ := h
  exact ⟨b, h1, h2, _, [], by simp, h3, .nil⟩
theorem plus_step {u : List Nat} {x : Rx} {F O : Nat → Bool} (hO : ∀ e, e ≤ u.length → O e = true → stp (.plus x) u F e) {e : Nat} (he : e ≤ u.length) (h : stp x u O e) : stp (.plus x) u F e := by
  obtain ⟨m, h1, h2, h3⟩ := h
  obtain ⟨b, h4, h5, h6⟩ := hO m (by omega) h2
  have h6 : ∃ p q, sub u b m = p ++ q ∧ L x p ∧ Star (L x) q := h6
  obtain ⟨p, q, h7, h8, h9⟩ := h6
  refine ⟨b, by omega, h5, p, q ++ sub u m e, ?_, h8, Star.snoc h9 h3⟩
  rw [sub_app u h4 h1, h7, List.append_assoc]
end Rx
end Go.Proofs.YtmlmnckhiianhaaDoor

namespace Go.Proofs.YtmlmnckhiianhaaDoor
open Go.RowKit
set_option linter.unusedVariables false
set_option linter.unusedSimpArgs false

/-- A slice of N answers. -/
def BS (w : World) (v : Value) (N : Nat) (F : Nat → Bool) : Prop := ∃ (g c : Nat) (cs : Array Value), v = .slice (some ⟨g, 0, none⟩) N c ∧ N ≤ c ∧ w.heap[g]? = some (.cells cs 4 (0, 0)) ∧ ∀ i, i < N → cs[i]? = some (.bool (F i))
theorem BS.below {w w' : World} {v : Value} {N : Nat} {F : Nat → Bool} (h : BS w v N F) (hb : Below w.heap.size w w') : BS w' v N F := by
  obtain ⟨g, c, cs, h1, h2, h3, h4⟩ := h
  exact ⟨g, c, cs, h1, h2, (hb.block g (blk_lt h3)).trans h3, h4⟩
theorem BS.congr {w : World} {v : Value} {N : Nat} {F G : Nat → Bool} (h : BS w v N F) (he : ∀ i, i < N → F i = G i) : BS w v N G := by
  obtain ⟨g, c, cs, h1, h2, h3, h4⟩ := h
  exact ⟨g, c, cs, h1, h2, h3, fun i hi => by rw [h4 i hi, he i hi]⟩
theorem BS.of_bools {w : World} {g : Nat} {bs : List Bool} (h : Bools w g bs) : BS w (.slice (some ⟨g, 0, none⟩) bs.length bs.length) bs.length (fun i => bs.getD i false) :=
  ⟨g, _, _, rfl, Nat.le_refl _, h, fun i hi => by
    rw [List.getElem?_toArray, List.getElem?_map, List.getElem?_eq_getElem hi]
    simp [List.getD, List.getElem?_eq_getElem hi]⟩
theorem BS.sl {w : World} {v : Value} {N : Nat} {F : Nat → Bool} (h : BS w v N F) : ∃ (A : Option Addr) (n c : Nat), v = .slice A n c := by
  obtain ⟨g, c, cs, h1, _⟩ := h
  exact ⟨_, _, _, h1⟩
theorem below_then {a b c : World} (h : Below a.heap.size a b) (k : Below b.heap.size b c) : Below a.heap.size a c :=
  h.trans ⟨k.os, k.tape, k.output, k.size, fun i hi => k.block i (Nat.lt_of_lt_of_le hi h.size)⟩
def orRow (F : Nat → Bool) (i : Nat) : List Value := (List.range i).map fun j => .bool (F j)
theorem orRow_succ (F : Nat → Bool) (i : Nat) : orRow F (i + 1) = orRow F i ++ [.bool (F i)] := by simp [orRow, List.range_succ]
theorem orRow_len (F : Nat → Bool) (i : Nat) : (orRow F i).length = i := by simp [orRow]
theorem BS.of_row {w : World} {B : Nat} {v : Value} {N : Nat} {F : Nat → Bool} (h : w.ownsRow B 4 1 v N (orRow F N)) (hN : 0 < N) : BS w v N F := by
  rcases h.2 with ⟨_, h0⟩ | ⟨g, cap, cur, hv, hB, hg, h1, h2, h3, h4⟩
  · omega
  · refine ⟨g, cap, cur, hv, h1, hg, fun i hi => ?_⟩
    have e : cur[i]? = (orRow F N)[i]? := by rw [← h4, List.getElem?_take_of_lt (by omega)]; simp
    rw [e, orRow, List.getElem?_map, List.getElem?_range hi]; rfl

set_option maxRecDepth 100000 in
set_option maxHeartbeats 4000000 in
theorem or_calls (a b : Value) (N : Nat) (Fa Fb : Nat → Bool) (w : World) (hN : 0 < N) (hN2 : N ≤ 100) (ha : BS w a N Fa) (hb : BS w b N Fb) :
    Calls Tryd.prog 61 #[a, b] w fun e w' => ∃ v, e = .returned v ∧ BS w' v N (fun i => Fa i || Fb i) ∧ Below w.heap.size w w' := by
  obtain ⟨i0, hinf, hz0, hz1, hz2⟩ := info_parts Tryd.infoBool
  obtain ⟨ga, ca, csa, rfl, ha2, ha3, ha4⟩ := ha
  obtain ⟨gb, cb, csb, rfl, hb2, hb3, hb4⟩ := hb
  have HA3 := Lib.hid ha3
  have HB3 := Lib.hid hb3
  have HA4 := Lib.hid ha4
  have HB4 := Lib.hid hb4
  clear ha3 hb3 ha4 hb4
  go_enter Tryd.func61, Tryd.ntmps61
  go_wp2
  generalize hF : (fun i => Fa i || Fb i) = F
  have HF : Hid (∀ i, F i = (Fa i || Fb i)) := Lib.hid (fun i => by rw [← hF])
  clear hF
  go_loopg [5, 6] (N + 1) (fun k u5 u6 wr => ∃ (i : Nat), u6 = .int .i64 (i : Int) ∧ i + k = N + 1 ∧ i ≤ N ∧ Hid (wr.ownsRow w.heap.size 4 1 u5 i (orRow F i)) ∧ Below w.heap.size w wr)
  case atStart => exact ⟨0, rfl, by omega, by omega, Lib.hid ⟨rfl, .inl ⟨rfl, rfl⟩⟩, Below.refl _ _⟩
  case round =>
    obtain ⟨i, rfl, hik, hiN, HO, hbel⟩ := hrel
    obtain ⟨wo, rfl⟩ : ∃ m : World, m = wr := ⟨_, rfl⟩
    by_cases hi : i < N
    · have hc1 : decide (i < N) = true := decide_eq_true hi
      have hi1 : (0 : Int) ≤ (i : Int) := by omega
      have hi2 : (i : Int) < (N : Int) := by omega
      have hca : wo.cell? ⟨ga, i, none⟩ = some (.bool (Fa i)) := (blk_cell ((hbel.block ga (blk_lt HA3.out)).trans HA3.out)).trans (HA4.out i hi)
      have hcb : wo.cell? ⟨gb, i, none⟩ = some (.bool (Fb i)) := (blk_cell ((hbel.block gb (blk_lt HB3.out)).trans HB3.out)).trans (HB4.out i hi)
      have HFi := Lib.hid (HF.out i)
      generalize Fa i = A at *
      generalize Fb i = B at *
      cases A with
      | true =>
        go_wp2_with (at_builtin; refine wpList_append_lies _ rfl (.tmp 13) (.tmp 24) 47 rfl w.heap.size 4 i0 (.bool false) 1 1 Tryd.underlying47 hinf hz0 hz1 hz2 rfl (by decide) u5 i (orRow F i) rfl (by exact HO.out.alloc _) ⟨_, 0, none⟩ 1 1 [.bool true] rfl rfl (World.news_of_block (blk_new' _ _ _ (by simp))) (fun u hu => by simp at hu; subst hu; rfl) (by decide) (by unfold maxLen; omega) (by omega) (by have := hbel.size; simp; omega) _ rfl (fun g1 cap w3 hown3 hgr3 hor3 hlt3 => ?_))
        go_roundg (gk - 1)
        case measure => omega
        case rel => exact ⟨i + 1, by go_num, by omega, by omega, Lib.hid (by rw [orRow_succ, HFi.out]; exact hown3), ((Chg.of_below (M := fun k => w.heap.size ≤ k) hbel).alloc _ |>.grown hgr3 (fun k hk => .inr (HO.out.lt k hk).1)).below (fun k hk h => by omega)⟩
      | false =>
        go_wp2_with (at_builtin; refine wpList_append_lies _ rfl (.tmp 13) (.tmp 24) 47 rfl w.heap.size 4 i0 (.bool false) 1 1 Tryd.underlying47 hinf hz0 hz1 hz2 rfl (by decide) u5 i (orRow F i) rfl (by exact HO.out.alloc _) ⟨_, 0, none⟩ 1 1 [.bool B] rfl rfl (World.news_of_block (blk_new' _ _ _ (by simp))) (fun u hu => by simp at hu; subst hu; rfl) (by decide) (by unfold maxLen; omega) (by omega) (by have := hbel.size; simp; omega) _ rfl (fun g1 cap w3 hown3 hgr3 hor3 hlt3 => ?_))
        go_roundg (gk - 1)
        case measure => omega
        case rel => exact ⟨i + 1, by go_num, by omega, by omega, Lib.hid (by rw [orRow_succ, HFi.out]; exact hown3), ((Chg.of_below (M := fun k => w.heap.size ≤ k) hbel).alloc _ |>.grown hgr3 (fun k hk => .inr (HO.out.lt k hk).1)).below (fun k hk h => by omega)⟩
    · have hc1 : decide (i < N) = false := decide_eq_false hi
      obtain rfl : i = N := by omega
      go_wp2
      go_ret
      exact ⟨u5, rfl, (BS.of_row HO.out hN).congr fun j _ => HF.out j, hbel⟩
end Go.Proofs.YtmlmnckhiianhaaDoor

namespace Go.Proofs.YtmlmnckhiianhaaDoor
open Go.RowKit
set_option linter.unusedVariables false
set_option linter.unusedSimpArgs false

/-- What Ends has done. -/
def ERes (u : List Nat) (x : Rx) (F : Nat → Bool) (w : World) (e : Ending) (w' : World) : Prop :=
  ∃ (A : Option Addr) (n c : Nat) (G : Nat → Bool), e = .returned (.slice A n c) ∧ BS w' (.slice A n c) (u.length + 1) G ∧ (∀ m, m ≤ u.length → (G m = true ↔ Rx.stp x u F m)) ∧ Below w.heap.size w w'
def EOk (s : ByteArray) (x : Rx) : Prop := ∀ (K : ByteArray) (A1 A2 A3 : Option Addr) (m1 c1 m2 c2 m3 c3 : Nat) (F : Nat → Bool) (w : World), NV w (fun _ => True) (K, .slice A1 m1 c1, .slice A2 m2 c2) x → BS w (.slice A3 m3 c3) (s.size + 1) F →
  Calls Tryd.prog 45 #[.agg #[.string K, .slice A1 m1 c1, .slice A2 m2 c2], .string s, .slice A3 m3 c3] w (ERes (bys s) x F w)

theorem NV.inv_byte {w : World} {S : Nat → Prop} {K : ByteArray} {h k : Value} {P : Nat → Bool} (hv : NV w S (K, h, k) (.byte P)) : ∃ (gh : Nat) (bs : List Bool), h = .slice (some ⟨gh, 0, none⟩) 256 256 ∧ Bools w gh bs ∧ Sees P bs := by
  generalize hu : (K, h, k) = u at hv
  generalize hx : Rx.byte P = x at hv
  cases hv with
  | mk x' h' k' us h1 k1 hb hl hv hk =>
    injection hu with e1 e2
    injection e2 with e3 e4
    obtain ⟨gh, bs, a1, a2, a3, a4⟩ := hb P hx.symm
    exact ⟨gh, bs, by rw [e3]; exact a1, a3, a4⟩
/-- Where a byte of P ends. -/
def byteG (P F : Nat → Bool) (u : List Nat) : Nat → Bool
  | 0 => false
  | m + 1 => F m && (match u[m]? with | some c => P c | none => false)
theorem byteG_iff {P F : Nat → Bool} {u : List Nat} {m : Nat} (hm : m ≤ u.length) : byteG P F u m = true ↔ Rx.stp (.byte P) u F m := by
  rw [Rx.stp_byte hm]
  cases m with
  | zero => simp [byteG]
  | succ m =>
    have hl : m < u.length := by omega
    simp only [byteG, List.getElem?_eq_getElem hl, Bool.and_eq_true]
    constructor
    · rintro ⟨h1, h2⟩; exact ⟨m, _, rfl, List.getElem?_eq_getElem hl, h1, h2⟩
    · rintro ⟨i, c, e, h1, h2, h3⟩
      have : m = i := by omega
      subst this
      rw [List.getElem?_eq_getElem hl] at h1
      injection h1 with h1
      subst h1
      exact ⟨h2, h3⟩
/-- So far the places are laid. -/
def Laid (G : Nat → Bool) (N i : Nat) (bs : List Bool) : Prop := bs.length = N ∧ ∀ m, m < N → bs[m]? = some (decide (m ≤ i) && G m)
theorem Laid.start {G : Nat → Bool} {N : Nat} (h : G 0 = false) : Laid G N 0 (List.replicate N false) := ⟨List.length_replicate, fun m hm => by
  rw [List.getElem?_replicate, if_pos hm]
  by_cases e : m = 0
  · subst e; rw [h]; rfl
  · have : decide (m ≤ 0) = false := decide_eq_false (by omega)
    rw [this]; rfl⟩
theorem Laid.step {G : Nat → Bool} {N i : Nat} {bs : List Bool} (h : Laid G N i bs) (hi : i + 1 < N) {b : Bool} (hb : b = G (i + 1)) : Laid G N (i + 1) (bs.set (i + 1) b) := by
  refine ⟨by simpa using h.1, fun m hm => ?_⟩
  by_cases e : i + 1 = m
  · subst e
    rw [List.getElem?_set_self (by rw [h.1]; exact hm), hb]; simp
  · rw [List.getElem?_set_ne e, h.2 m hm]
    have : decide (m ≤ i) = decide (m ≤ i + 1) := by rw [Bool.eq_iff_iff]; simp only [decide_eq_true_eq]; omega
    rw [this]
theorem Laid.bs {G : Nat → Bool} {N i : Nat} {bs : List Bool} {w : World} {g : Nat} (h : Laid G N i bs) (hi : N ≤ i + 1) (hb : Bools w g bs) : BS w (.slice (some ⟨g, 0, none⟩) N N) N G :=
  ⟨g, N, _, rfl, Nat.le_refl _, hb, fun m hm => by
    rw [List.getElem?_toArray, List.getElem?_map, h.2 m hm]
    have : decide (m ≤ i) = true := decide_eq_true (by omega)
    rw [this]; rfl⟩
theorem made2 (w : World) (o : Obj) (N : Nat) : Bools ((w.alloc o).alloc (.cells (madeCells #[.bool false] N) 4)) (w.heap.size + 1) (List.replicate N false) := by
  have h := Bools.made (w.alloc o) N
  have e : (w.alloc o).heap.size = w.heap.size + 1 := by simp
  rw [e] at h
  exact h

theorem none_bs (w : World) (o : Obj) (N : Nat) : BS ((w.alloc o).alloc (.cells (madeCells #[.bool false] N) 4)) (.slice (some ⟨w.heap.size + 1, 0, none⟩) N N) N (fun _ => false) :=
  ⟨_, N, _, rfl, Nat.le_refl _, made2 w o N, fun m hm => by
    rw [List.getElem?_toArray, List.getElem?_map, List.getElem?_replicate, if_pos hm]; rfl⟩

set_option maxRecDepth 100000 in
set_option maxHeartbeats 4000000 in
theorem ends_byte (s : ByteArray) (hs : s.size ≤ 64) (P : Nat → Bool) : EOk s (.byte P) := by
  intro K A1 A2 A3 m1 c1 m2 c2 m3 c3 F w hv hf
  obtain ⟨i0, hinf, hz0, hz1, hz2⟩ := info_parts Tryd.infoBool
  have hby : i0.bytes * (s.size + 1) ≤ 281474976710656 := by rw [hz2]; omega
  have hK : K = ⟨#[98, 121, 116, 101]⟩ := hv.one.1
  subst hK
  obtain ⟨gh, hbs, e1, hB, hS⟩ := hv.inv_byte
  injection e1 with e1 e2 e3
  subst e1; subst e2; subst e3
  obtain ⟨gf, cf, csf, e4, hf2, hf3, hf4⟩ := hf
  injection e4 with e4 e5 e6
  subst e4; subst e5; subst e6
  have HB := Lib.hid hB
  have HS := Lib.hid hS
  have HF3 := Lib.hid hf3
  have HF4 := Lib.hid hf4
  clear hv hB hS hf3 hf4
  go_enter Tryd.func45, Tryd.ntmps45
  go_wp2_with (at_make; refine wpList_make_row _ rfl (.tmp 17) (.tmp 17) 47 rfl 4 i0 (.bool false) Tryd.underlying47 hinf hz0 hz1 rfl .i64 .i64 (s.size + 1) rfl rfl hby (by omega) ?_)
  go_loopg [8] (s.size + 1) (fun k u8 wr => ∃ (i : Nat) (bs : List Bool), u8 = .int .i64 (i : Int) ∧ i + k = s.size + 1 ∧ i ≤ s.size ∧ Bools wr (w.heap.size + 1) bs ∧ Hid (Laid (byteG P F (bys s)) (s.size + 1) i bs) ∧ NX wr w.heap.size ⟨#[98, 121, 116, 101]⟩ (.slice (some ⟨gh, 0, none⟩) 256 256) (.slice A2 m2 c2) ∧ Chg (fun _ => False) w wr)
  case atStart => exact ⟨0, _, rfl, by omega, by omega, made2 w _ _, Lib.hid (Laid.start rfl), blk_alloc (blk_new w _) _, ((Chg.refl (fun _ => False) w).alloc _).alloc _⟩
  case round =>
    obtain ⟨i, bs, rfl, hik, hi2, hb, hU, hbox, hch⟩ := hrel
    obtain ⟨wo, rfl⟩ : ∃ m : World, m = wr := ⟨_, rfl⟩
    have hbx := hbox.c1
    by_cases hlt : i < s.size
    · have hc1 : decide (i < s.size) = true := decide_eq_true hlt
      have hbi := bys_get s i hlt
      have HG : Hid ((F i && P s[i].toNat) = byteG P F (bys s) (i + 1)) := Lib.hid (by simp only [byteG, hbi])
      have hc256 : s[i].toNat < 256 := UInt8.toNat_lt _
      have hcF : wo.cell? ⟨gf, i, none⟩ = some (.bool (F i)) := (blk_cell (hch.blk HF3.out id)).trans (HF4.out i (by omega))
      have hcP : wo.cell? ⟨gh, s[i].toNat, none⟩ = some (.bool (P s[i].toNat)) := (HB.out.chg hch id).c (HS.out.2 _ hc256)
      obtain ⟨b0, hb0⟩ : ∃ b0, bs[i + 1]? = some b0 := ⟨_, hU.out.2 (i + 1) (by omega)⟩
      have hcb := hb.c hb0
      have hfb : wo.frozen? ⟨w.heap.size + 1, i + 1, none⟩ = false := blk_free hb
      have hi3 : (0 : Int) ≤ (i : Int) := by omega
      have hi4 : (i : Int) < (s.size : Int) := by omega
      have hi5 : (i : Int) < (s.size : Int) + 1 := by omega
      have hi6 : (0 : Int) ≤ (i : Int) + 1 := by omega
      have hi7 : (i : Int) + 1 < (s.size : Int) + 1 := by omega
      have hnt : ((i : Int) + 1).toNat = i + 1 := by omega
      have hwr : IntKind.i64.wrap ((i : Int) + 1) = (i : Int) + 1 := IntWalk.i64_in _ (by omega)
      have hc1' : (s[i].toNat : Int) < 256 := by omega
      have hc0' : (0 : Int) ≤ (s[i].toNat : Int) := by omega
      clear hb0 hbi
      generalize F i = Fi at *
      cases Fi with
      | true =>
        go_wp2
        go_region
        go_wp2
        go_roundg (gk - 1)
        case measure => omega
        case rel => exact ⟨i + 1, _, by go_num, by omega, by omega, hb.set (i + 1) _, Lib.hid (hU.out.step (by omega) HG.out), hbox.far (by simp) _, (hch.setCell (.inr (by simp)) _).drew⟩
      | false =>
        go_wp2
        go_region
        go_wp2
        go_roundg (gk - 1)
        case measure => omega
        case rel => exact ⟨i + 1, _, by go_num, by omega, by omega, hb.set (i + 1) _, Lib.hid (hU.out.step (by omega) HG.out), hbox.far (by simp) _, (hch.setCell (.inr (by simp)) _).drew⟩
    · have hc1 : decide (i < s.size) = false := decide_eq_false hlt
      obtain rfl : i = s.size := by omega
      go_wp2
      go_ret
      exact ⟨_, _, _, byteG P F (bys s), rfl, by rw [bys_len]; exact hU.out.bs (Nat.le_refl _) hb, fun m hm => byteG_iff hm, hch.below fun _ _ h => h⟩
end Go.Proofs.YtmlmnckhiianhaaDoor

namespace Go.Proofs.YtmlmnckhiianhaaDoor
open Go.RowKit
set_option linter.unusedVariables false
set_option linter.unusedSimpArgs false

/-- A node's parts, one by one. -/
theorem NV.inv_kids {w : World} {S : Nat → Prop} {K : ByteArray} {h : Value} {A2 : Option Addr} {m2 c2 : Nat} {x : Rx} (hv : NV w S (K, h, .slice A2 m2 c2) x) : m2 = (kidsOf x).length ∧ ∀ (i : Nat) (y : Rx), (kidsOf x)[i]? = some y →
    ∃ (g : Nat) (Ku : ByteArray) (B1 B2 : Option Addr) (n1 d1 n2 d2 : Nat), A2 = some ⟨g, 0, none⟩ ∧ w.rangeAt g (i * 3) [.string Ku, .slice B1 n1 d1, .slice B2 n2 d2] ∧ NV w S (Ku, .slice B1 n1 d1, .slice B2 n2 d2) y := by
  generalize hu : (K, h, Value.slice A2 m2 c2) = u at hv
  cases hv with
  | mk x' h' k' us h1 k1 hb hl hv hk =>
    injection hu with e1 e2
    injection e2 with e3 e4
    rcases hv with ⟨e5, e6⟩ | ⟨g, c, cs, e5, hS, hc, hcs, hi⟩
    · rw [e5] at e4
      injection e4 with e7 e8 e9
      subst e6
      refine ⟨by rw [← hl, e8]; rfl, fun i y hy => ?_⟩
      have := (List.getElem?_eq_some_iff.1 hy).1
      rw [← hl] at this
      simp at this
    · rw [e5] at e4
      injection e4 with e7 e8 e9
      refine ⟨by rw [← hl, e8], fun i y hy => ?_⟩
      have hil := (List.getElem?_eq_some_iff.1 hy).1
      rw [← hl] at hil
      obtain ⟨⟨Ku, hu', ku'⟩, hui⟩ : ∃ u, us[i]? = some u := ⟨_, List.getElem?_eq_getElem hil⟩
      have hn := hk i _ y hui hy
      obtain ⟨B1, n1, d1, f1⟩ := hn.one.2.1
      obtain ⟨B2, n2, d2, f2⟩ := hn.one.2.2
      simp only at f1 f2
      subst f1; subst f2
      obtain ⟨a0, a1, a2⟩ := hi i _ hui
      refine ⟨g, Ku, B1, B2, n1, d1, n2, d2, e7, ?_, hn⟩
      intro j v hj
      have ec : ∀ o, w.cell? ⟨g, o, none⟩ = cs[o]? := fun o => blk_cell hcs
      rw [ec]
      match j, hj with
      | 0, hj => simp at hj; subst hj; rw [Nat.add_zero, Nat.mul_comm]; exact a0
      | 1, hj => simp at hj; subst hj; rw [Nat.mul_comm]; exact a1
      | 2, hj => simp at hj; subst hj; rw [Nat.mul_comm]; exact a2
theorem NV.up {w w' : World} {u : Tr} {x : Rx} (h : NV w (fun _ => True) u x) (hb : Below w.heap.size w w') : NV w' (fun _ => True) u x := h.frame fun k hk _ => ⟨hb.block k hk, trivial⟩

set_option maxRecDepth 100000 in
set_option maxHeartbeats 4000000 in
theorem ends_row (s : ByteArray) (hs : s.size ≤ 64) (l : List Rx) (hll : l.length ≤ 100000) (hl : ∀ y, y ∈ l → EOk s y) : EOk s (.row l) := by
  intro K A1 A2 A3 m1 c1 m2 c2 m3 c3 F w hv hf
  obtain ⟨i0, hinf, hz0, hz1, hz2⟩ := info_parts Tryd.infoBool
  have hby : i0.bytes * (s.size + 1) ≤ 281474976710656 := by rw [hz2]; omega
  have hK : K = ⟨#[114, 111, 119]⟩ := hv.one.1
  subst hK
  have hm2 : m2 = l.length := hv.inv_kids.1
  subst hm2
  have HV := Lib.hid hv
  have HF := Lib.hid hf
  have HL := Lib.hid hl
  clear hv hf hl
  go_enter Tryd.func45, Tryd.ntmps45
  go_wp2_with (at_make; refine wpList_make_row _ rfl (.tmp 17) (.tmp 17) 47 rfl 4 i0 (.bool false) Tryd.underlying47 hinf hz0 hz1 rfl .i64 .i64 (s.size + 1) rfl rfl hby (by omega) ?_)
  go_loopg [7, 9] (l.length + 1) (fun k u7 u9 wr => ∃ (i : Nat) (B : Option Addr) (n c : Nat) (O : Nat → Bool), u7 = .slice B n c ∧ u9 = .int .i64 (i : Int) ∧ i + k = l.length + 1 ∧ i ≤ l.length ∧ Hid (BS wr (.slice B n c) (s.size + 1) O) ∧ Hid (∀ m, m ≤ (bys s).length → (Rx.stp (.row l) (bys s) F m ↔ Rx.stp (.row (l.drop i)) (bys s) O m)) ∧ Hid (NX wr w.heap.size ⟨#[114, 111, 119]⟩ (.slice A1 m1 c1) (.slice A2 l.length c2)) ∧ Hid (Below w.heap.size w wr))
  case atStart => exact ⟨0, A3, m3, c3, F, rfl, rfl, by omega, by omega, Lib.hid (HF.out.below (((Below.refl _ w).alloc (Nat.le_refl _) _).alloc (by simp) _)), Lib.hid (fun m _ => Iff.rfl), Lib.hid (blk_alloc (blk_new w _) _), Lib.hid (((Below.refl _ w).alloc (Nat.le_refl _) _).alloc (by simp) _)⟩
  case round =>
    obtain ⟨i, B, n, c, O, rfl, rfl, hik, hil, hO, hiff, hbox, hbel⟩ := hrel
    obtain ⟨wo, rfl⟩ : ∃ m : World, m = wr := ⟨_, rfl⟩
    have hbx := hbox.out.c2
    by_cases hi : i < l.length
    · have hc1 : decide (i < l.length) = true := decide_eq_true hi
      have hc2 : (i : Int) < (l.length : Int) := by omega
      have hc3 : (0 : Int) ≤ (i : Int) := by omega
      obtain ⟨y, hy⟩ : ∃ y, l[i]? = some y := ⟨_, List.getElem?_eq_getElem hi⟩
      have HMEM := Lib.hid (List.mem_of_getElem? hy)
      have hdrop : l.drop i = y :: l.drop (i + 1) := by
        rw [List.drop_eq_getElem_cons hi]
        rw [List.getElem?_eq_getElem hi] at hy
        injection hy with hy
        rw [hy]
      have HD := Lib.hid hdrop
      obtain ⟨g, Ku, B1, B2, n1, d1, n2, d2, rfl, hrg, hny⟩ := (HV.out.up hbel.out).inv_kids.2 i y hy
      have HRG := Lib.hid hrg
      have HNY := Lib.hid hny
      clear hy hdrop hrg hny
      go_wp2_with (first | (refine wpList_load_mid rfl _ (.tmp 94) rfl g (i * 3) rfl _ _ HRG.out Tryd.underlying50 rfl (by kernel_rfl) ?_) | (go_at_call 45; ((refine (HL.out y HMEM.out Ku B1 B2 B n1 d1 n2 d2 n c O _ HNY.out hO.out).mono ?_); rintro e w3 ⟨E, en, ec, G, rfl, hG, hGi, hb3⟩; have HG := Lib.hid hG; have HGI := Lib.hid hGi; have HB3 := Lib.hid hb3; clear hG hGi hb3)))
      go_roundg (gk - 1)
      case measure => omega
      case rel => exact ⟨i + 1, E, en, ec, G, rfl, by go_num, by omega, by omega, Lib.hid (by rw [← bys_len]; exact HG.out), Lib.hid (fun m hm => (hiff.out m hm).trans (by rw [HD.out]; exact Rx.stp_row_cons hm HGI.out)), Lib.hid (NX.chg (M := fun _ => False) hbox.out (Chg.of_below HB3.out) id), Lib.hid (below_then hbel.out HB3.out)⟩
    · have hc1 : decide (i < l.length) = false := decide_eq_false hi
      obtain rfl : i = l.length := by omega
      go_wp2
      go_ret
      refine ⟨B, n, c, O, rfl, by rw [bys_len]; exact hO.out, fun m hm => ?_, hbel.out⟩
      have := hiff.out m hm
      rw [List.drop_length] at this
      exact (Rx.stp_row_nil hm).symm.trans this.symm

set_option maxRecDepth 100000 in
set_option maxHeartbeats 4000000 in
theorem ends_either (s : ByteArray) (hs : s.size ≤ 64) (l : List Rx) (hll : l.length ≤ 100000) (hl : ∀ y, y ∈ l → EOk s y) : EOk s (.either l) := by
  intro K A1 A2 A3 m1 c1 m2 c2 m3 c3 F w hv hf
  obtain ⟨i0, hinf, hz0, hz1, hz2⟩ := info_parts Tryd.infoBool
  have hby : i0.bytes * (s.size + 1) ≤ 281474976710656 := by rw [hz2]; omega
  have hK : K = ⟨#[101, 105, 116, 104, 101, 114]⟩ := hv.one.1
  subst hK
  have hm2 : m2 = l.length := hv.inv_kids.1
  subst hm2
  have HV := Lib.hid hv
  have HF := Lib.hid hf
  have HL := Lib.hid hl
  clear hv hf hl
  go_enter Tryd.func45, Tryd.ntmps45
  go_wp2_with (at_make; refine wpList_make_row _ rfl (.tmp 17) (.tmp 17) 47 rfl 4 i0 (.bool false) Tryd.underlying47 hinf hz0 hz1 rfl .i64 .i64 (s.size + 1) rfl rfl hby (by omega) ?_)
  go_loopg [7, 10] (l.length + 1) (fun k u7 u9 wr => ∃ (i : Nat) (B : Option Addr) (n c : Nat) (O : Nat → Bool), u7 = .slice B n c ∧ u9 = .int .i64 (i : Int) ∧ i + k = l.length + 1 ∧ i ≤ l.length ∧ Hid (BS wr (.slice B n c) (s.size + 1) O) ∧ Hid (∀ m, m ≤ (bys s).length → (O m = true ↔ ∃ y, y ∈ l.take i ∧ Rx.stp y (bys s) F m)) ∧ Hid (NX wr w.heap.size ⟨#[101, 105, 116, 104, 101, 114]⟩ (.slice A1 m1 c1) (.slice A2 l.length c2)) ∧ Hid (Below w.heap.size w wr))
  case atStart => exact ⟨0, _, _, _, fun _ => false, rfl, rfl, by omega, by omega, Lib.hid (none_bs w _ _), Lib.hid (fun m _ => by simp), Lib.hid (blk_alloc (blk_new w _) _), Lib.hid (((Below.refl _ w).alloc (Nat.le_refl _) _).alloc (by simp) _)⟩
  case round =>
    obtain ⟨i, B, n, c, O, rfl, rfl, hik, hil, hO, hiff, hbox, hbel⟩ := hrel
    obtain ⟨wo, rfl⟩ : ∃ m : World, m = wr := ⟨_, rfl⟩
    have hbx := hbox.out.c2
    by_cases hi : i < l.length
    · have hc1 : decide (i < l.length) = true := decide_eq_true hi
      have hc2 : (i : Int) < (l.length : Int) := by omega
      have hc3 : (0 : Int) ≤ (i : Int) := by omega
      obtain ⟨y, hy⟩ : ∃ y, l[i]? = some y := ⟨_, List.getElem?_eq_getElem hi⟩
      have HMEM := Lib.hid (List.mem_of_getElem? hy)
      have htake : l.take (i + 1) = l.take i ++ [y] := by rw [List.take_add_one, hy]; rfl
      have HD := Lib.hid htake
      obtain ⟨g, Ku, B1, B2, n1, d1, n2, d2, rfl, hrg, hny⟩ := (HV.out.up hbel.out).inv_kids.2 i y hy
      have HRG := Lib.hid hrg
      have HNY := Lib.hid hny
      clear hy htake hrg hny
      go_wp2_with (first | (refine wpList_load_mid rfl _ (.tmp 112) rfl g (i * 3) rfl _ _ HRG.out Tryd.underlying50 rfl (by kernel_rfl) ?_) | (go_at_call 45; ((refine (HL.out y HMEM.out Ku B1 B2 A3 n1 d1 n2 d2 m3 c3 F _ HNY.out (HF.out.below hbel.out)).mono ?_); rintro e w3 ⟨E, en, ec, G, rfl, hG, hGi, hb3⟩; have HG := Lib.hid hG; have HGI := Lib.hid hGi; have HB3 := Lib.hid hb3; clear hG hGi hb3)) | (go_at_call 61; ((refine (or_calls _ _ (s.size + 1) O G _ (by omega) (by omega) (by exact hO.out.below HB3.out) (by rw [← bys_len]; exact HG.out)).mono ?_); rintro e w4 ⟨v4, rfl, hG4, hb4⟩; obtain ⟨E4, en4, ec4, rfl⟩ := hG4.sl; have HG4 := Lib.hid hG4; have HB4 := Lib.hid hb4; clear hG4 hb4)))
      go_roundg (gk - 1)
      case measure => omega
      case rel =>
        refine ⟨i + 1, E4, en4, ec4, _, rfl, by go_num, by omega, by omega, HG4, Lib.hid (fun m hm => ?_), Lib.hid (NX.chg (M := fun _ => False) (NX.chg (M := fun _ => False) hbox.out (Chg.of_below HB3.out) id) (Chg.of_below HB4.out) id), Lib.hid (below_then (below_then hbel.out HB3.out) HB4.out)⟩
        rw [Bool.or_eq_true, hiff.out m hm, HGI.out m hm, HD.out]
        simp only [List.mem_append, List.mem_singleton]
        constructor
        · rintro (⟨z, h1, h2⟩ | h)
          · exact ⟨z, .inl h1, h2⟩
          · exact ⟨y, .inr rfl, h⟩
        · rintro ⟨z, h1 | rfl, h2⟩
          · exact .inl ⟨z, h1, h2⟩
          · exact .inr h2
    · have hc1 : decide (i < l.length) = false := decide_eq_false hi
      obtain rfl : i = l.length := by omega
      go_wp2
      go_ret
      refine ⟨B, n, c, O, rfl, by rw [bys_len]; exact hO.out, fun m hm => ?_, hbel.out⟩
      have := hiff.out m hm
      rw [List.take_length] at this
      exact this.trans Rx.stp_any.symm
end Go.Proofs.YtmlmnckhiianhaaDoor

namespace Go.Proofs.YtmlmnckhiianhaaDoor
open Go.RowKit
set_option linter.unusedVariables false
set_option linter.unusedSimpArgs false

/-- Do two differ below i? -/
def dif (G O : Nat → Bool) : Nat → Bool
  | 0 => false
  | i + 1 => dif G O i || (G i != O i)
theorem dif_false {G O : Nat → Bool} : ∀ {i : Nat}, dif G O i = false → ∀ j, j < i → G j = O j
  | 0, _, j, hj => by omega
  | i + 1, h, j, hj => by
    simp only [dif, Bool.or_eq_false_iff] at h
    by_cases e : j = i
    · subst e
      have := h.2
      cases hg : G j <;> cases ho : O j <;> simp_all
    · exact dif_false h.1 j (by omega)
/-- How many places are not there. -/
def cfs (O : Nat → Bool) : Nat → Nat
  | 0 => 0
  | i + 1 => cfs O i + (if O i = true then 0 else 1)
theorem cfs_le (O : Nat → Bool) : ∀ i, cfs O i ≤ i
  | 0 => Nat.le_refl _
  | i + 1 => by have := cfs_le O i; unfold cfs; split <;> omega
theorem cfs_less {G O : Nat → Bool} (h : ∀ j, O j = true → G j = true) : ∀ i, cfs G i + (if dif G O i = true then 1 else 0) ≤ cfs O i
  | 0 => by simp [cfs, dif]
  | i + 1 => by
    have ih := cfs_less h i
    have hi := h i
    unfold cfs dif
    cases hg : G i <;> cases ho : O i <;> cases hd : dif G O i <;> simp_all <;> omega
/-- What a sign of times means: sound, begun, open or closed. -/
structure Clo (r X : Rx) (u : List Nat) (F : Nat → Bool) (st : Bool) (O : Nat → Bool) : Prop where
  sound : ∀ e, e ≤ u.length → O e = true → Rx.stp X u F e
  base : st = true → ∀ e, e ≤ u.length → F e = true → O e = true
structure Opn (r X : Rx) (u : List Nat) (F : Nat → Bool) (O W : Nat → Bool) : Prop where
  snd : ∀ e, e ≤ u.length → Rx.stp r u W e → Rx.stp X u F e
  stay : ∀ e, e ≤ u.length → Rx.stp r u O e → O e = true ∨ Rx.stp r u W e
  first : ∀ e, e ≤ u.length → Rx.stp r u F e → O e = true ∨ Rx.stp r u W e
structure Shut (r : Rx) (u : List Nat) (F O : Nat → Bool) : Prop where
  clo : ∀ e, e ≤ u.length → Rx.stp r u O e → O e = true
  first : ∀ e, e ≤ u.length → Rx.stp r u F e → O e = true
def Steps (r X : Rx) (u : List Nat) (F : Nat → Bool) : Prop := ∀ O : Nat → Bool, (∀ e, e ≤ u.length → O e = true → Rx.stp X u F e) → ∀ e, e ≤ u.length → Rx.stp r u O e → Rx.stp X u F e
section
variable {r X : Rx} {u : List Nat} {F O W G : Nat → Bool} {st : Bool}
theorem Clo.more (h : Clo r X u F st O) (ho : Opn r X u F O W) (hG : ∀ e, e ≤ u.length → (G e = true ↔ Rx.stp r u W e)) : Clo r X u F st (fun e => O e || G e) :=
  ⟨fun e he hh => by
    simp only [Bool.or_eq_true] at hh
    rcases hh with hh | hh
    · exact h.sound e he hh
    · exact ho.snd e he ((hG e he).1 hh), fun hs e he hf => by simp only [Bool.or_eq_true]; exact .inl (h.base hs e he hf)⟩
theorem stp_or {e : Nat} (h : Rx.stp r u (fun e => O e || G e) e) : Rx.stp r u O e ∨ Rx.stp r u G e := by
  obtain ⟨b, h1, h2, h3⟩ := h
  simp only [Bool.or_eq_true] at h2
  rcases h2 with h2 | h2
  · exact .inl ⟨b, h1, h2, h3⟩
  · exact .inr ⟨b, h1, h2, h3⟩
theorem Opn.more (ho : Opn r X u F O W) (hs : Steps r X u F) (hG : ∀ e, e ≤ u.length → (G e = true ↔ Rx.stp r u W e)) : Opn r X u F (fun e => O e || G e) G :=
  ⟨fun e he hh => hs G (fun e he hg => ho.snd e he ((hG e he).1 hg)) e he hh,
   fun e he hh => by
    simp only [Bool.or_eq_true]
    rcases stp_or hh with hh | hh
    · rcases ho.stay e he hh with h | h
      · exact .inl (.inl h)
      · exact .inl (.inr ((hG e he).2 h))
    · exact .inr hh,
   fun e he hh => by
    simp only [Bool.or_eq_true]
    rcases ho.first e he hh with h | h
    · exact .inl (.inl h)
    · exact .inl (.inr ((hG e he).2 h))⟩
theorem Opn.shut (ho : Opn r X u F O W) (hG : ∀ e, e ≤ u.length → (G e = true ↔ Rx.stp r u W e)) (hd : ∀ e, e ≤ u.length → (O e || G e) = O e) : Shut r u F (fun e => O e || G e) := by
  have key : ∀ e, e ≤ u.length → (O e = true ∨ Rx.stp r u W e) → (O e || G e) = true := fun e he h => by
    rcases h with h | h
    · rw [h]; rfl
    · rw [(hG e he).2 h, Bool.or_true]
  refine ⟨fun e he hh => key e he (ho.stay e he ?_), fun e he hh => key e he (ho.first e he hh)⟩
  exact Rx.stp_mono (fun b hb h => by rw [hd b (by omega)] at h; exact h) hh
end

set_option maxRecDepth 100000 in
set_option maxHeartbeats 4000000 in
theorem ends_maybe (s : ByteArray) (hs : s.size ≤ 64) (r : Rx) (hl : EOk s r) : EOk s (.maybe r) := by
  intro K A1 A2 A3 m1 c1 m2 c2 m3 c3 F w hv hf
  obtain ⟨i0, hinf, hz0, hz1, hz2⟩ := info_parts Tryd.infoBool
  have hby : i0.bytes * (s.size + 1) ≤ 281474976710656 := by rw [hz2]; omega
  have hK : K = ⟨#[63]⟩ := hv.one.1
  subst hK
  have hm2 : m2 = 1 := hv.inv_kids.1
  subst hm2
  obtain ⟨g, Ku, B1, B2, n1, d1, n2, d2, rfl, hrg, hny⟩ := (hv.up (((Below.refl _ w).alloc (Nat.le_refl _) (.cells #[.string ⟨#[63]⟩, .slice A1 m1 c1, .slice A2 1 c2] 50)).alloc (by simp) (.cells (madeCells #[.bool false] (s.size + 1)) 4))).inv_kids.2 0 r rfl
  have HRG := Lib.hid hrg
  have HNY := Lib.hid hny
  have hf2 := hf.below (((Below.refl _ w).alloc (Nat.le_refl _) (.cells #[.string ⟨#[63]⟩, .slice A1 m1 c1, .slice (some ⟨g, 0, none⟩) 1 c2] 50)).alloc (by simp) (.cells (madeCells #[.bool false] (s.size + 1)) 4))
  have HF := Lib.hid hf2
  have HL := Lib.hid hl
  clear hv hf hl hrg hny hf2
  go_enter Tryd.func45, Tryd.ntmps45
  go_wp2_with (first | (at_make; refine wpList_make_row _ rfl (.tmp 17) (.tmp 17) 47 rfl 4 i0 (.bool false) Tryd.underlying47 hinf hz0 hz1 rfl .i64 .i64 (s.size + 1) rfl rfl hby (by omega) ?_) | (refine wpList_load_mid rfl _ (.tmp 123) rfl g 0 rfl _ _ HRG.out Tryd.underlying50 rfl (by kernel_rfl) ?_) | (go_at_call 45; ((refine (HL.out Ku B1 B2 A3 n1 d1 n2 d2 m3 c3 F _ HNY.out HF.out).mono ?_); rintro e w3 ⟨E, en, ec, G, rfl, hG, hGi, hb3⟩; have HG := Lib.hid hG; have HGI := Lib.hid hGi; have HB3 := Lib.hid hb3; clear hG hGi hb3)) | (go_at_call 61; ((refine (or_calls _ _ (s.size + 1) F G _ (by omega) (by omega) (by exact HF.out.below HB3.out) (by rw [← bys_len]; exact HG.out)).mono ?_); rintro e w4 ⟨v4, rfl, hG4, hb4⟩; obtain ⟨E4, en4, ec4, rfl⟩ := hG4.sl; have HG4 := Lib.hid hG4; have HB4 := Lib.hid hb4; clear hG4 hb4)))
  go_ret
  refine ⟨E4, en4, ec4, _, rfl, by rw [bys_len]; exact HG4.out, fun m hm => ?_, ?_⟩
  · rw [Rx.stp_maybe hm, Bool.or_eq_true, HGI.out m hm]
  · exact below_then (below_then (((Below.refl _ w).alloc (Nat.le_refl _) _).alloc (by simp) _) HB3.out) HB4.out

set_option maxRecDepth 100000 in
set_option maxHeartbeats 8000000 in
theorem ends_star (s : ByteArray) (hs : s.size ≤ 64) (r : Rx) (hl : EOk s r) : EOk s (.star r) := by
  intro K A1 A2 A3 m1 c1 m2 c2 m3 c3 F w hv hf
  obtain ⟨i0, hinf, hz0, hz1, hz2⟩ := info_parts Tryd.infoBool
  have hby : i0.bytes * (s.size + 1) ≤ 281474976710656 := by rw [hz2]; omega
  have hK : K = ⟨#[42]⟩ := hv.one.1
  subst hK
  have hm2 : m2 = 1 := hv.inv_kids.1
  subst hm2
  have HV := Lib.hid hv
  have HF := Lib.hid hf
  have HL := Lib.hid hl
  have HST : Hid (Steps r (.star r) (bys s) F) := Lib.hid (fun O hO e he h => Rx.star_step hO he h)
  clear hv hf hl
  go_enter Tryd.func45, Tryd.ntmps45
  go_wp2_with (at_make; refine wpList_make_row _ rfl (.tmp 17) (.tmp 17) 47 rfl 4 i0 (.bool false) Tryd.underlying47 hinf hz0 hz1 rfl .i64 .i64 (s.size + 1) rfl rfl hby (by omega) ?_)
  go_loopg [7, 11, 12] (s.size + 2) (fun k u7 u11 u12 wr => ∃ (B D : Option Addr) (n c n' c' : Nat) (O W : Nat → Bool) (mo : Bool), u7 = .slice B n c ∧ u11 = .slice D n' c' ∧ u12 = .bool mo ∧ Hid (BS wr (.slice B n c) (s.size + 1) O) ∧ Hid (BS wr (.slice D n' c') (s.size + 1) W) ∧ Hid (Clo r (.star r) (bys s) F true O) ∧ Hid ((mo = true ∧ Opn r (.star r) (bys s) F O W ∧ cfs O (s.size + 1) < k) ∨ (mo = false ∧ Shut r (bys s) F O)) ∧ Hid (NX wr w.heap.size ⟨#[42]⟩ (.slice A1 m1 c1) (.slice A2 1 c2)) ∧ Hid (Below w.heap.size w wr))
  case atStart => exact ⟨A3, A3, m3, c3, m3, c3, F, F, true, rfl, rfl, rfl, Lib.hid (HF.out.below (((Below.refl _ w).alloc (Nat.le_refl _) _).alloc (by simp) _)), Lib.hid (HF.out.below (((Below.refl _ w).alloc (Nat.le_refl _) _).alloc (by simp) _)), Lib.hid ⟨fun e he h => Rx.star_self h, fun _ e he h => h⟩, Lib.hid (.inl ⟨rfl, ⟨fun e he h => HST.out F (fun e he h => Rx.star_self h) e he h, fun e he h => .inr h, fun e he h => .inr h⟩, by have := cfs_le F (s.size + 1); omega⟩), Lib.hid (blk_alloc (blk_new w _) _), Lib.hid (((Below.refl _ w).alloc (Nat.le_refl _) _).alloc (by simp) _)⟩
  case round =>
    obtain ⟨B, D, n, c, n', c', O, W, mo, rfl, rfl, rfl, hO, hW, hclo, hst, hbox, hbel⟩ := hrel
    obtain ⟨wo, rfl⟩ : ∃ m : World, m = wr := ⟨_, rfl⟩
    obtain ⟨gk0, rfl⟩ : ∃ m : Nat, m = gk := ⟨_, rfl⟩
    have hbx := hbox.out.c2
    cases mo with
    | false =>
      have HSH : Hid (Shut r (bys s) F O) := Lib.hid (by
        rcases hst.out with ⟨h, _⟩ | ⟨_, h⟩
        · cases h
        · exact h)
      clear hst
      go_wp2
      go_ret
      exact ⟨B, n, c, O, rfl, by rw [bys_len]; exact hO.out, fun m hm => ⟨hclo.out.sound m hm, fun h => Rx.star_least (hclo.out.base rfl) HSH.out.clo hm h⟩, hbel.out⟩
    | true =>
      have HOP : Hid (Opn r (.star r) (bys s) F O W ∧ cfs O (s.size + 1) < gk0) := Lib.hid (by
        rcases hst.out with ⟨_, h⟩ | ⟨h, _⟩
        · exact h
        · cases h)
      clear hst
      obtain ⟨g, Ku, B1, B2, n1, d1, n2, d2, rfl, hrg, hny⟩ := (HV.out.up hbel.out).inv_kids.2 0 r rfl
      have HRG := Lib.hid hrg
      have HNY := Lib.hid hny
      clear hrg hny
      go_wp2_with (first | (refine wpList_load_mid rfl _ (.tmp 29) rfl g 0 rfl _ _ HRG.out Tryd.underlying50 rfl (by kernel_rfl) ?_) | (go_at_call 45; ((refine (HL.out Ku B1 B2 D n1 d1 n2 d2 n' c' W _ HNY.out hW.out).mono ?_); rintro e w3 ⟨E, en, ec, G, rfl, hG, hGi, hb3⟩; have HG := Lib.hid hG; have HGI := Lib.hid hGi; have HB3 := Lib.hid hb3; clear hG hGi hb3)) | (go_at_call 61; ((refine (or_calls _ _ (s.size + 1) O G _ (by omega) (by omega) (by exact hO.out.below HB3.out) (by rw [← bys_len]; exact HG.out)).mono ?_); rintro e w4 ⟨v4, rfl, hG4, hb4⟩; have HB4 := Lib.hid hb4; have HG4 := Lib.hid hG4; have HO4 := Lib.hid ((hO.out.below HB3.out).below HB4.out); clear hb4)))
      obtain ⟨gn, cn, csn, rfl, hn2, hn3, hn4⟩ := HG4.out
      obtain ⟨go_, co, cso, e1, ho2, ho3, ho4⟩ := HO4.out
      injection e1 with e1 e2 e3
      subst e1; subst e2; subst e3
      have HN3 := Lib.hid hn3
      have HN4 := Lib.hid hn4
      have HO3 := Lib.hid ho3
      have HO44 := Lib.hid ho4
      clear hn3 hn4 ho3 ho4
      have HGE := Lib.hid (show BS w4 (.slice E en ec) (s.size + 1) G from by have := HG.out.below HB4.out; rw [bys_len] at this; exact this)
      have HBX := Lib.hid (NX.chg (M := fun _ => False) (NX.chg (M := fun _ => False) hbox.out (Chg.of_below HB3.out) id) (Chg.of_below HB4.out) id)
      go_loopg [12, 14] (s.size + 2) (fun k u12 u14 wr => ∃ (i : Nat), u12 = .bool (dif (fun e => O e || G e) O i) ∧ u14 = .int .i64 (i : Int) ∧ i + k = s.size + 2 ∧ i ≤ s.size + 1 ∧ ∃ d, wr = w4.drewN d)
      case atStart => exact ⟨0, rfl, rfl, by omega, by omega, 0, rfl⟩
      case round =>
        obtain ⟨i, rfl, rfl, hik, hil, d, rfl⟩ := hrel
        by_cases hi : i < s.size + 1
        · have hc1 : decide ((i : Int) < (s.size : Int) + 1) = true := decide_eq_true (by omega)
          have hc2 : (i : Int) < (s.size : Int) + 1 := by omega
          have hc3 : (0 : Int) ≤ (i : Int) := by omega
          have hcn : w4.cell? ⟨gn, i, none⟩ = some (.bool (O i || G i)) := (blk_cell HN3.out).trans (HN4.out i hi)
          have hco : w4.cell? ⟨go_, i, none⟩ = some (.bool (O i)) := (blk_cell HO3.out).trans (HO44.out i hi)
          have hdf : dif (fun e => O e || G e) O (i + 1) = (dif (fun e => O e || G e) O i || ((O i || G i) != O i)) := rfl
          have HDF := Lib.hid hdf
          clear hdf
          generalize hdi : dif (fun e => O e || G e) O i = di at *
          generalize (O i || G i) = x1 at *
          generalize O i = x2 at *
          cases di with
          | true =>
            go_wp2
            go_quiet (fail)
            go_wp2
            go_roundg (gk - 1)
            case measure => omega
            case rel => exact ⟨i + 1, by rw [HDF.out]; rfl, by go_num, by omega, by omega, _, rfl⟩
          | false =>
            go_wp2
            go_quiet (fail)
            go_wp2
            go_roundg (gk - 1)
            case measure => omega
            case rel => exact ⟨i + 1, by rw [HDF.out]; cases x1 <;> cases x2 <;> rfl, by go_num, by omega, by omega, _, rfl⟩
        · have hc1 : decide ((i : Int) < (s.size : Int) + 1) = false := decide_eq_false (by omega)
          obtain rfl : i = s.size + 1 := by omega
          go_wp2
          go_roundg (gk0 - 1)
          case measure => have := HOP.out.2; omega
          case rel =>
            have hless := cfs_less (G := fun e => O e || G e) (O := O) (fun j h => by simp [h]) (s.size + 1)
            refine ⟨_, _, _, _, _, _, (fun e => O e || G e), G, dif (fun e => O e || G e) O (s.size + 1), rfl, rfl, rfl, Lib.hid (HG4.out.below ⟨rfl, rfl, rfl, Nat.le_refl _, fun _ _ => rfl⟩), Lib.hid (HGE.out.below ⟨rfl, rfl, rfl, Nat.le_refl _, fun _ _ => rfl⟩), Lib.hid (hclo.out.more HOP.out.1 HGI.out), Lib.hid ?_, HBX, Lib.hid ((below_then (below_then hbel.out HB3.out) HB4.out).trans ⟨rfl, rfl, rfl, Nat.le_refl _, fun _ _ => rfl⟩)⟩
            have h9 := HOP.out.2
            cases hd : dif (fun e => O e || G e) O (s.size + 1) with
            | true =>
              rw [hd] at hless
              simp only [if_true] at hless
              exact .inl ⟨rfl, HOP.out.1.more HST.out HGI.out, by omega⟩
            | false => exact .inr ⟨rfl, HOP.out.1.shut HGI.out (fun e he => dif_false hd e (by rw [bys_len] at he; omega))⟩

set_option maxRecDepth 100000 in
set_option maxHeartbeats 8000000 in
theorem ends_plus (s : ByteArray) (hs : s.size ≤ 64) (r : Rx) (hl : EOk s r) : EOk s (.plus r) := by
  intro K A1 A2 A3 m1 c1 m2 c2 m3 c3 F w hv hf
  obtain ⟨i0, hinf, hz0, hz1, hz2⟩ := info_parts Tryd.infoBool
  have hby : i0.bytes * (s.size + 1) ≤ 281474976710656 := by rw [hz2]; omega
  have hK : K = ⟨#[43]⟩ := hv.one.1
  subst hK
  have hm2 : m2 = 1 := hv.inv_kids.1
  subst hm2
  have HV := Lib.hid hv
  have HF := Lib.hid hf
  have HL := Lib.hid hl
  have HST : Hid (Steps r (.plus r) (bys s) F) := Lib.hid (fun O hO e he h => Rx.plus_step hO he h)
  clear hv hf hl
  go_enter Tryd.func45, Tryd.ntmps45
  go_wp2_with (at_make; refine wpList_make_row _ rfl (.tmp 17) (.tmp 17) 47 rfl 4 i0 (.bool false) Tryd.underlying47 hinf hz0 hz1 rfl .i64 .i64 (s.size + 1) rfl rfl hby (by omega) ?_)
  go_loopg [7, 11, 12] (s.size + 2) (fun k u7 u11 u12 wr => ∃ (B D : Option Addr) (n c n' c' : Nat) (O W : Nat → Bool) (mo : Bool), u7 = .slice B n c ∧ u11 = .slice D n' c' ∧ u12 = .bool mo ∧ Hid (BS wr (.slice B n c) (s.size + 1) O) ∧ Hid (BS wr (.slice D n' c') (s.size + 1) W) ∧ Hid (Clo r (.plus r) (bys s) F false O) ∧ Hid ((mo = true ∧ Opn r (.plus r) (bys s) F O W ∧ cfs O (s.size + 1) < k) ∨ (mo = false ∧ Shut r (bys s) F O)) ∧ Hid (NX wr w.heap.size ⟨#[43]⟩ (.slice A1 m1 c1) (.slice A2 1 c2)) ∧ Hid (Below w.heap.size w wr))
  case atStart => exact ⟨_, A3, _, _, m3, c3, fun _ => false, F, true, rfl, rfl, rfl, Lib.hid (none_bs w _ _), Lib.hid (HF.out.below (((Below.refl _ w).alloc (Nat.le_refl _) _).alloc (by simp) _)), Lib.hid ⟨fun e he h => (by cases h), fun h => (by cases h)⟩, Lib.hid (.inl ⟨rfl, ⟨fun e he h => Rx.plus_self h, fun e he h => (by obtain ⟨b, h1, h2, h3⟩ := h; cases h2), fun e he h => .inr h⟩, by have := cfs_le (fun _ => false) (s.size + 1); omega⟩), Lib.hid (blk_alloc (blk_new w _) _), Lib.hid (((Below.refl _ w).alloc (Nat.le_refl _) _).alloc (by simp) _)⟩
  case round =>
    obtain ⟨B, D, n, c, n', c', O, W, mo, rfl, rfl, rfl, hO, hW, hclo, hst, hbox, hbel⟩ := hrel
    obtain ⟨wo, rfl⟩ : ∃ m : World, m = wr := ⟨_, rfl⟩
    obtain ⟨gk0, rfl⟩ : ∃ m : Nat, m = gk := ⟨_, rfl⟩
    have hbx := hbox.out.c2
    cases mo with
    | false =>
      have HSH : Hid (Shut r (bys s) F O) := Lib.hid (by
        rcases hst.out with ⟨h, _⟩ | ⟨_, h⟩
        · cases h
        · exact h)
      clear hst
      go_wp2
      go_ret
      exact ⟨B, n, c, O, rfl, by rw [bys_len]; exact hO.out, fun m hm => ⟨hclo.out.sound m hm, fun h => Rx.plus_least HSH.out.first HSH.out.clo hm h⟩, hbel.out⟩
    | true =>
      have HOP : Hid (Opn r (.plus r) (bys s) F O W ∧ cfs O (s.size + 1) < gk0) := Lib.hid (by
        rcases hst.out with ⟨_, h⟩ | ⟨h, _⟩
        · exact h
        · cases h)
      clear hst
      obtain ⟨g, Ku, B1, B2, n1, d1, n2, d2, rfl, hrg, hny⟩ := (HV.out.up hbel.out).inv_kids.2 0 r rfl
      have HRG := Lib.hid hrg
      have HNY := Lib.hid hny
      clear hrg hny
      go_wp2_with (first | (refine wpList_load_mid rfl _ (.tmp 29) rfl g 0 rfl _ _ HRG.out Tryd.underlying50 rfl (by kernel_rfl) ?_) | (go_at_call 45; ((refine (HL.out Ku B1 B2 D n1 d1 n2 d2 n' c' W _ HNY.out hW.out).mono ?_); rintro e w3 ⟨E, en, ec, G, rfl, hG, hGi, hb3⟩; have HG := Lib.hid hG; have HGI := Lib.hid hGi; have HB3 := Lib.hid hb3; clear hG hGi hb3)) | (go_at_call 61; ((refine (or_calls _ _ (s.size + 1) O G _ (by omega) (by omega) (by exact hO.out.below HB3.out) (by rw [← bys_len]; exact HG.out)).mono ?_); rintro e w4 ⟨v4, rfl, hG4, hb4⟩; have HB4 := Lib.hid hb4; have HG4 := Lib.hid hG4; have HO4 := Lib.hid ((hO.out.below HB3.out).below HB4.out); clear hb4)))
      obtain ⟨gn, cn, csn, rfl, hn2, hn3, hn4⟩ := HG4.out
      obtain ⟨go_, co, cso, e1, ho2, ho3, ho4⟩ := HO4.out
      injection e1 with e1 e2 e3
      subst e1; subst e2; subst e3
      have HN3 := Lib.hid hn3
      have HN4 := Lib.hid hn4
      have HO3 := Lib.hid ho3
      have HO44 := Lib.hid ho4
      clear hn3 hn4 ho3 ho4
      have HGE := Lib.hid (show BS w4 (.slice E en ec) (s.size + 1) G from by have := HG.out.below HB4.out; rw [bys_len] at this; exact this)
      have HBX := Lib.hid (NX.chg (M := fun _ => False) (NX.chg (M := fun _ => False) hbox.out (Chg.of_below HB3.out) id) (Chg.of_below HB4.out) id)
      go_loopg [12, 14] (s.size + 2) (fun k u12 u14 wr => ∃ (i : Nat), u12 = .bool (dif (fun e => O e || G e) O i) ∧ u14 = .int .i64 (i : Int) ∧ i + k = s.size + 2 ∧ i ≤ s.size + 1 ∧ ∃ d, wr = w4.drewN d)
      case atStart => exact ⟨0, rfl, rfl, by omega, by omega, 0, rfl⟩
      case round =>
        obtain ⟨i, rfl, rfl, hik, hil, d, rfl⟩ := hrel
        by_cases hi : i < s.size + 1
        · have hc1 : decide ((i : Int) < (s.size : Int) + 1) = true := decide_eq_true (by omega)
          have hc2 : (i : Int) < (s.size : Int) + 1 := by omega
          have hc3 : (0 : Int) ≤ (i : Int) := by omega
          have hcn : w4.cell? ⟨gn, i, none⟩ = some (.bool (O i || G i)) := (blk_cell HN3.out).trans (HN4.out i hi)
          have hco : w4.cell? ⟨go_, i, none⟩ = some (.bool (O i)) := (blk_cell HO3.out).trans (HO44.out i hi)
          have hdf : dif (fun e => O e || G e) O (i + 1) = (dif (fun e => O e || G e) O i || ((O i || G i) != O i)) := rfl
          have HDF := Lib.hid hdf
          clear hdf
          generalize hdi : dif (fun e => O e || G e) O i = di at *
          generalize (O i || G i) = x1 at *
          generalize O i = x2 at *
          cases di with
          | true =>
            go_wp2
            go_quiet (fail)
            go_wp2
            go_roundg (gk - 1)
            case measure => omega
            case rel => exact ⟨i + 1, by rw [HDF.out]; rfl, by go_num, by omega, by omega, _, rfl⟩
          | false =>
            go_wp2
            go_quiet (fail)
            go_wp2
            go_roundg (gk - 1)
            case measure => omega
            case rel => exact ⟨i + 1, by rw [HDF.out]; cases x1 <;> cases x2 <;> rfl, by go_num, by omega, by omega, _, rfl⟩
        · have hc1 : decide ((i : Int) < (s.size : Int) + 1) = false := decide_eq_false (by omega)
          obtain rfl : i = s.size + 1 := by omega
          go_wp2
          go_roundg (gk0 - 1)
          case measure => have := HOP.out.2; omega
          case rel =>
            have hless := cfs_less (G := fun e => O e || G e) (O := O) (fun j h => by simp [h]) (s.size + 1)
            refine ⟨_, _, _, _, _, _, (fun e => O e || G e), G, dif (fun e => O e || G e) O (s.size + 1), rfl, rfl, rfl, Lib.hid (HG4.out.below ⟨rfl, rfl, rfl, Nat.le_refl _, fun _ _ => rfl⟩), Lib.hid (HGE.out.below ⟨rfl, rfl, rfl, Nat.le_refl _, fun _ _ => rfl⟩), Lib.hid (hclo.out.more HOP.out.1 HGI.out), Lib.hid ?_, HBX, Lib.hid ((below_then (below_then hbel.out HB3.out) HB4.out).trans ⟨rfl, rfl, rfl, Nat.le_refl _, fun _ _ => rfl⟩)⟩
            have h9 := HOP.out.2
            cases hd : dif (fun e => O e || G e) O (s.size + 1) with
            | true =>
              rw [hd] at hless
              simp only [if_true] at hless
              exact .inl ⟨rfl, HOP.out.1.more HST.out HGI.out, by omega⟩
            | false => exact .inr ⟨rfl, HOP.out.1.shut HGI.out (fun e he => dif_false hd e (by rw [bys_len] at he; omega))⟩
end Go.Proofs.YtmlmnckhiianhaaDoor

namespace Go.Proofs.YtmlmnckhiianhaaDoor
open Go.RowKit
set_option linter.unusedVariables false
set_option linter.unusedSimpArgs false

theorem ends_calls (s : ByteArray) (hs : s.size ≤ 64) : ∀ (n : Nat) (x : Rx), SizeOf.sizeOf x ≤ n → Rx.sz x ≤ 100000 → EOk s x
  | 0, x, h, _ => by cases x <;> simp at h
  | n + 1, x, h, hw => by
    have kids : ∀ l : List Rx, SizeOf.sizeOf l < n + 1 → Rx.szs l ≤ 100000 → ∀ y, y ∈ l → EOk s y := fun l hl hw y hy =>
      ends_calls s hs n y (by have := List.sizeOf_lt_of_mem hy; omega) (by have := Rx.szs_mem hy; omega)
    cases x with
    | byte P => exact ends_byte s hs P
    | row l => exact ends_row s hs l (by have := Rx.szs_len l; simp [Rx.sz] at hw; omega) (kids l (by simp at h; omega) (by simp [Rx.sz] at hw; omega))
    | either l => exact ends_either s hs l (by have := Rx.szs_len l; simp [Rx.sz] at hw; omega) (kids l (by simp at h; omega) (by simp [Rx.sz] at hw; omega))
    | star r => exact ends_star s hs r (ends_calls s hs n r (by simp at h; omega) (by simp [Rx.sz] at hw; omega))
    | plus r => exact ends_plus s hs r (ends_calls s hs n r (by simp at h; omega) (by simp [Rx.sz] at hw; omega))
    | maybe r => exact ends_maybe s hs r (ends_calls s hs n r (by simp at h; omega) (by simp [Rx.sz] at hw; omega))
theorem stp_all (x : Rx) (u : List Nat) : Rx.stp x u (fun m => decide (m = 0)) u.length ↔ Rx.L x u := by
  constructor
  · rintro ⟨b, h1, h2, h3⟩
    have : b = 0 := by simpa using h2
    subst this
    rwa [Rx.sub_all] at h3
  · intro h
    exact ⟨0, Nat.zero_le _, rfl, by rwa [Rx.sub_all]⟩
theorem first_bs {w : World} {g N : Nat} (h : Bools w g ((List.replicate (N + 1) false).set 0 true)) : BS w (.slice (some ⟨g, 0, none⟩) (N + 1) (N + 1)) (N + 1) (fun m => decide (m = 0)) :=
  ⟨g, N + 1, _, rfl, Nat.le_refl _, h, fun m hm => by
    rw [List.getElem?_toArray, List.getElem?_map]
    by_cases e : 0 = m
    · subst e
      rw [List.getElem?_set_self (by simp)]; rfl
    · rw [List.getElem?_set_ne e, List.getElem?_replicate, if_pos hm]
      have : decide (m = 0) = false := decide_eq_false (fun h => e h.symm)
      simp only [this]; rfl⟩
theorem made_eq (N : Nat) : madeCells #[.bool false] N = ((List.replicate N false).map Value.bool).toArray := by
  have h1 := made2 default (.cells #[] 0) N
  have h2 := blk_new (World.alloc default (.cells #[] 0)) (.cells (madeCells #[.bool false] N) 4)
  have e : (World.alloc default (.cells #[] 0)).heap.size = (default : World).heap.size + 1 := by simp
  rw [e] at h2
  unfold Bools at h1
  rw [h1] at h2
  injection h2 with h2
  injection h2 with h2
  exact h2.symm

theorem made3 (w : World) (o : Obj) (N : Nat) : Bools ((w.alloc o).alloc (.cells ((madeCells #[.bool false] (N + 1)).setIfInBounds 0 (.bool true)) 4)) (w.heap.size + 1) ((List.replicate (N + 1) false).set 0 true) := by
  have e : (madeCells #[.bool false] (N + 1)).setIfInBounds 0 (.bool true) = (((List.replicate (N + 1) false).set 0 true).map Value.bool).toArray := by
    rw [made_eq, List.setIfInBounds_toArray, List.map_set]
  rw [e]
  exact blk_new' _ _ _ (by simp)

set_option maxRecDepth 100000 in
set_option maxHeartbeats 4000000 in
theorem RMatch_calls (s : ByteArray) (hs : s.size ≤ 64) (x : Rx) (hx : Rx.sz x ≤ 100000) (K : ByteArray) (A1 A2 : Option Addr) (m1 c1 m2 c2 : Nat) (w : World) (hv : NV w (fun _ => True) (K, .slice A1 m1 c1, .slice A2 m2 c2) x) :
    Calls Tryd.prog 29 #[.agg #[.string K, .slice A1 m1 c1, .slice A2 m2 c2], .string s] w fun e w' => e = .returned (.bool (mt x (bys s))) ∧ Below w.heap.size w w' := by
  obtain ⟨i0, hinf, hz0, hz1, hz2⟩ := info_parts Tryd.infoBool
  have hby : i0.bytes * (s.size + 1) ≤ 281474976710656 := by rw [hz2]; omega
  have HV := Lib.hid hv
  have HE := Lib.hid (ends_calls s hs _ x (Nat.le_refl _) hx)
  clear hv
  have hm0 : (madeCells #[Value.bool false] (s.size + 1))[0]? = some (.bool false) := by rw [made_eq]; simp
  have hc1 : (0 : Int) < (s.size : Int) + 1 := by omega
  have hc2 : (s.size : Int) < (s.size : Int) + 1 := by omega
  have hc3 : (0 : Int) ≤ (s.size : Int) := by omega
  go_enter Tryd.func29, Tryd.ntmps29
  go_wp2_with (first | (at_make; refine wpList_make_row _ rfl (.tmp 8) (.tmp 8) 47 rfl 4 i0 (.bool false) Tryd.underlying47 hinf hz0 hz1 rfl .i64 .i64 (s.size + 1) rfl rfl hby (by omega) ?_) | (go_at_call 45; ((refine (HE.out K A1 A2 _ m1 c1 m2 c2 _ _ (fun m => decide (m = 0)) _ (by exact HV.out.up (((Below.refl _ w).alloc (Nat.le_refl _) _).alloc (by simp) _)) (by exact first_bs (made3 w _ _))).mono ?_); rintro e w3 ⟨E, en, ec, G, rfl, hG, hGi, hb3⟩; obtain ⟨gE, cE, csE, e1, hE2, hE3, hE4⟩ := (show BS w3 _ (s.size + 1) G from by rw [← bys_len]; exact hG); injection e1 with e1 e2 e3; subst e1; subst e2; subst e3; have hcl := (blk_cell (o := s.size) hE3).trans (hE4 s.size (by omega)); have HGI := Lib.hid hGi; have HB3 := Lib.hid hb3; clear hG hGi hb3 hE3 hE4)))
  have hres := HGI.out (bys s).length (Nat.le_refl _)
  rw [stp_all] at hres
  have HRES := Lib.hid (show mt x (bys s) = G s.size by
    rw [bys_len] at hres
    cases hg : G s.size with
    | true => exact mt_true (hres.1 hg)
    | false => exact mt_false (fun h => by rw [hres.2 h] at hg; cases hg))
  clear hres
  go_ret
  exact ⟨congrArg (fun b => Ending.returned (.bool b)) HRES.out.symm, below_then (((Below.refl _ w).alloc (Nat.le_refl _) _).alloc (by simp) _) HB3.out⟩
end Go.Proofs.YtmlmnckhiianhaaDoor
