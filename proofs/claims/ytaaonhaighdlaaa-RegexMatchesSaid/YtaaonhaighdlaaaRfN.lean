/- The document's matcher: any pattern; all of a text. -/
import Derived.Test.YtaaonhaighdlaaaRfM
import Derived.Test.YtaaonhaighdlaaaRfH
import Derived.Test.YtaaonhaighdlaaaShelf
namespace Go.Proofs.Ytaaonhaighdlaaa
open Go.RowKit
set_option linter.unusedVariables false
set_option linter.unusedSimpArgs false

theorem ends_calls (s : ByteArray) (hs : s.size ≤ 64) : ∀ (n : Nat) (x : Rx), SizeOf.sizeOf x ≤ n → Rx.sz x ≤ 100000 → EOk s x
  | 0, x, h, _ => by cases x <;> simp at h
  | n + 1, x, h, hw => by
    have kids : ∀ l : List Rx, SizeOf.sizeOf l < n + 1 → Rx.szs l ≤ 100000 → ∀ y, y ∈ l → EOk s y := fun l hl hw y hy =>
      ends_calls s hs n y (by have := List.sizeOf_lt_of_mem hy; omega) (by have := Rx.szs_mem hy; omega)
    cases x with
    | byte P => exact ends_byte s hs P
    | row l => exact ends_row s hs l (by have := Rx.szs_len l; simp [Rx.sz] at hw; omega) (kids l (by simp at h; omega) (by simp [Rx.sz] at hw; omega))
    | either l => exact ends_either s hs l (by have := Rx.szs_len l; simp [Rx.sz] at hw; omega) (kids l (by simp at h; omega) (by simp [Rx.sz] at hw; omega))
    | star r => exact ends_star s hs r (ends_calls s hs n r (by simp at h; omega) (by simp [Rx.sz] at hw; omega))
    | plus r => exact ends_plus s hs r (ends_calls s hs n r (by simp at h; omega) (by simp [Rx.sz] at hw; omega))
    | maybe r => exact ends_maybe s hs r (ends_calls s hs n r (by simp at h; omega) (by simp [Rx.sz] at hw; omega))
theorem stp_all (x : Rx) (u : List Nat) : Rx.stp x u (fun m => decide (m = 0)) u.length ↔ Rx.L x u := by
  constructor
  · rintro ⟨b, h1, h2, h3⟩
    have : b = 0 := by simpa using h2
    subst this
    rwa [Rx.sub_all] at h3
  · intro h
    exact ⟨0, Nat.zero_le _, rfl, by rwa [Rx.sub_all]⟩
theorem first_bs {w : World} {g N : Nat} (h : Bools w g ((List.replicate (N + 1) false).set 0 true)) : BS w (.slice (some ⟨g, 0, none⟩) (N + 1) (N + 1)) (N + 1) (fun m => decide (m = 0)) :=
  ⟨g, N + 1, _, rfl, Nat.le_refl _, h, fun m hm => by
    rw [List.getElem?_toArray, List.getElem?_map]
    by_cases e : 0 = m
    · subst e
      rw [List.getElem?_set_self (by simp)]; rfl
    · rw [List.getElem?_set_ne e, List.getElem?_replicate, if_pos hm]
      have : decide (m = 0) = false := decide_eq_false (fun h => e h.symm)
      simp only [this]; rfl⟩
theorem made_eq (N : Nat) : madeCells #[.bool false] N = ((List.replicate N false).map Value.bool).toArray := by
  have h1 := made2 default (.cells #[] 0) N
  have h2 := blk_new (World.alloc default (.cells #[] 0)) (.cells (madeCells #[.bool false] N) 4)
  have e : (World.alloc default (.cells #[] 0)).heap.size = (default : World).heap.size + 1 := by simp
  rw [e] at h2
  unfold Bools at h1
  rw [h1] at h2
  injection h2 with h2
  injection h2 with h2
  exact h2.symm

theorem made3 (w : World) (o : Obj) (N : Nat) : Bools ((w.alloc o).alloc (.cells ((madeCells #[.bool false] (N + 1)).setIfInBounds 0 (.bool true)) 4)) (w.heap.size + 1) ((List.replicate (N + 1) false).set 0 true) := by
  have e : (madeCells #[.bool false] (N + 1)).setIfInBounds 0 (.bool true) = (((List.replicate (N + 1) false).set 0 true).map Value.bool).toArray := by
    rw [made_eq, List.setIfInBounds_toArray, List.map_set]
  rw [e]
  exact blk_new' _ _ _ (by simp)

set_option maxRecDepth 100000 in
set_option maxHeartbeats 4000000 in
theorem RMatch_calls (s : ByteArray) (hs : s.size ≤ 64) (x : Rx) (hx : Rx.sz x ≤ 100000) (K : ByteArray) (A1 A2 : Option Addr) (m1 c1 m2 c2 : Nat) (w : World) (hv : NV w (fun _ => True) (K, .slice A1 m1 c1, .slice A2 m2 c2) x) :
    Calls Try.prog 16 #[.agg #[.string K, .slice A1 m1 c1, .slice A2 m2 c2], .string s] w fun e w' => e = .returned (.bool (mt x (bys s))) ∧ Below w.heap.size w w' := by
  obtain ⟨i0, hinf, hz0, hz1, hz2⟩ := info_parts Try.infoBool
  have hby : i0.bytes * (s.size + 1) ≤ 281474976710656 := by rw [hz2]; omega
  have HV := Lib.hid hv
  have HE := Lib.hid (ends_calls s hs _ x (Nat.le_refl _) hx)
  clear hv
  have hm0 : (madeCells #[Value.bool false] (s.size + 1))[0]? = some (.bool false) := by rw [made_eq]; simp
  have hc1 : (0 : Int) < (s.size : Int) + 1 := by omega
  have hc2 : (s.size : Int) < (s.size : Int) + 1 := by omega
  have hc3 : (0 : Int) ≤ (s.size : Int) := by omega
  go_enter Try.func16, Try.ntmps16
  go_wp2_with (first | (at_make; refine wpList_make_row _ rfl (.tmp 8) (.tmp 8) 37 rfl 4 i0 (.bool false) Try.underlying37 hinf hz0 hz1 rfl .i64 .i64 (s.size + 1) rfl rfl hby (by omega) ?_) | (go_at_call 27; ((refine (HE.out K A1 A2 _ m1 c1 m2 c2 _ _ (fun m => decide (m = 0)) _ (by exact HV.out.up (((Below.refl _ w).alloc (Nat.le_refl _) _).alloc (by simp) _)) (by exact first_bs (made3 w _ _))).mono ?_); rintro e w3 ⟨E, en, ec, G, rfl, hG, hGi, hb3⟩; obtain ⟨gE, cE, csE, e1, hE2, hE3, hE4⟩ := (show BS w3 _ (s.size + 1) G from by rw [← bys_len]; exact hG); injection e1 with e1 e2 e3; subst e1; subst e2; subst e3; have hcl := (blk_cell (o := s.size) hE3).trans (hE4 s.size (by omega)); have HGI := Lib.hid hGi; have HB3 := Lib.hid hb3; clear hG hGi hb3 hE3 hE4)))
  have hres := HGI.out (bys s).length (Nat.le_refl _)
  rw [stp_all] at hres
  have HRES := Lib.hid (show mt x (bys s) = G s.size by
    rw [bys_len] at hres
    cases hg : G s.size with
    | true => exact mt_true (hres.1 hg)
    | false => exact mt_false (fun h => by rw [hres.2 h] at hg; cases hg))
  clear hres
  go_ret
  exact ⟨congrArg (fun b => Ending.returned (.bool b)) HRES.out.symm, below_then (((Below.refl _ w).alloc (Nat.le_refl _) _).alloc (by simp) _) HB3.out⟩
end Go.Proofs.Ytaaonhaighdlaaa
