/- The document's matcher, walked. -/
import Derived.Test.YtaaonhaighdlaaaRfJ
namespace Go.Proofs.Ytaaonhaighdlaaa
open Go.RowKit
set_option linter.unusedVariables false
set_option linter.unusedSimpArgs false

/-- What Ends has done. -/
def ERes (u : List Nat) (x : Rx) (F : Nat → Bool) (w : World) (e : Ending) (w' : World) : Prop :=
  ∃ (A : Option Addr) (n c : Nat) (G : Nat → Bool), e = .returned (.slice A n c) ∧ BS w' (.slice A n c) (u.length + 1) G ∧ (∀ m, m ≤ u.length → (G m = true ↔ Rx.stp x u F m)) ∧ Below w.heap.size w w'
def EOk (s : ByteArray) (x : Rx) : Prop := ∀ (K : ByteArray) (A1 A2 A3 : Option Addr) (m1 c1 m2 c2 m3 c3 : Nat) (F : Nat → Bool) (w : World), NV w (fun _ => True) (K, .slice A1 m1 c1, .slice A2 m2 c2) x → BS w (.slice A3 m3 c3) (s.size + 1) F →
  Calls Try.prog 27 #[.agg #[.string K, .slice A1 m1 c1, .slice A2 m2 c2], .string s, .slice A3 m3 c3] w (ERes (bys s) x F w)

theorem NV.inv_byte {w : World} {S : Nat → Prop} {K : ByteArray} {h k : Value} {P : Nat → Bool} (hv : NV w S (K, h, k) (.byte P)) : ∃ (gh : Nat) (bs : List Bool), h = .slice (some ⟨gh, 0, none⟩) 256 256 ∧ Bools w gh bs ∧ Sees P bs := by
  generalize hu : (K, h, k) = u at hv
  generalize hx : Rx.byte P = x at hv
  cases hv with
  | mk x' h' k' us h1 k1 hb hl hv hk =>
    injection hu with e1 e2
    injection e2 with e3 e4
    obtain ⟨gh, bs, a1, a2, a3, a4⟩ := hb P hx.symm
    exact ⟨gh, bs, by rw [e3]; exact a1, a3, a4⟩
/-- Where a byte of P ends. -/
def byteG (P F : Nat → Bool) (u : List Nat) : Nat → Bool
  | 0 => false
  | m + 1 => F m && (match u[m]? with | some c => P c | none => false)
theorem byteG_iff {P F : Nat → Bool} {u : List Nat} {m : Nat} (hm : m ≤ u.length) : byteG P F u m = true ↔ Rx.stp (.byte P) u F m := by
  rw [Rx.stp_byte hm]
  cases m with
  | zero => simp [byteG]
  | succ m =>
    have hl : m < u.length := by omega
    simp only [byteG, List.getElem?_eq_getElem hl, Bool.and_eq_true]
    constructor
    · rintro ⟨h1, h2⟩; exact ⟨m, _, rfl, List.getElem?_eq_getElem hl, h1, h2⟩
    · rintro ⟨i, c, e, h1, h2, h3⟩
      have : m = i := by omega
      subst this
      rw [List.getElem?_eq_getElem hl] at h1
      injection h1 with h1
      subst h1
      exact ⟨h2, h3⟩
/-- So far the places are laid. -/
def Laid (G : Nat → Bool) (N i : Nat) (bs : List Bool) : Prop := bs.length = N ∧ ∀ m, m < N → bs[m]? = some (decide (m ≤ i) && G m)
theorem Laid.start {G : Nat → Bool} {N : Nat} (h : G 0 = false) : Laid G N 0 (List.replicate N false) := ⟨List.length_replicate, fun m hm => by
  rw [List.getElem?_replicate, if_pos hm]
  by_cases e : m = 0
  · subst e; rw [h]; rfl
  · have : decide (m ≤ 0) = false := decide_eq_false (by omega)
    rw [this]; rfl⟩
theorem Laid.step {G : Nat → Bool} {N i : Nat} {bs : List Bool} (h : Laid G N i bs) (hi : i + 1 < N) {b : Bool} (hb : b = G (i + 1)) : Laid G N (i + 1) (bs.set (i + 1) b) := by
  refine ⟨by simpa using h.1, fun m hm => ?_⟩
  by_cases e : i + 1 = m
  · subst e
    rw [List.getElem?_set_self (by rw [h.1]; exact hm), hb]; simp
  · rw [List.getElem?_set_ne e, h.2 m hm]
    have : decide (m ≤ i) = decide (m ≤ i + 1) := by rw [Bool.eq_iff_iff]; simp only [decide_eq_true_eq]; omega
    rw [this]
theorem Laid.bs {G : Nat → Bool} {N i : Nat} {bs : List Bool} {w : World} {g : Nat} (h : Laid G N i bs) (hi : N ≤ i + 1) (hb : Bools w g bs) : BS w (.slice (some ⟨g, 0, none⟩) N N) N G :=
  ⟨g, N, _, rfl, Nat.le_refl _, hb, fun m hm => by
    rw [List.getElem?_toArray, List.getElem?_map, h.2 m hm]
    have : decide (m ≤ i) = true := decide_eq_true (by omega)
    rw [this]; rfl⟩
theorem made2 (w : World) (o : Obj) (N : Nat) : Bools ((w.alloc o).alloc (.cells (madeCells #[.bool false] N) 4)) (w.heap.size + 1) (List.replicate N false) := by
  have h := Bools.made (w.alloc o) N
  have e : (w.alloc o).heap.size = w.heap.size + 1 := by simp
  rw [e] at h
  exact h

theorem none_bs (w : World) (o : Obj) (N : Nat) : BS ((w.alloc o).alloc (.cells (madeCells #[.bool false] N) 4)) (.slice (some ⟨w.heap.size + 1, 0, none⟩) N N) N (fun _ => false) :=
  ⟨_, N, _, rfl, Nat.le_refl _, made2 w o N, fun m hm => by
    rw [List.getElem?_toArray, List.getElem?_map, List.getElem?_replicate, if_pos hm]; rfl⟩

set_option maxRecDepth 100000 in
set_option maxHeartbeats 4000000 in
theorem ends_byte (s : ByteArray) (hs : s.size ≤ 64) (P : Nat → Bool) : EOk s (.byte P) := by
  intro K A1 A2 A3 m1 c1 m2 c2 m3 c3 F w hv hf
  obtain ⟨i0, hinf, hz0, hz1, hz2⟩ := info_parts Try.infoBool
  have hby : i0.bytes * (s.size + 1) ≤ 281474976710656 := by rw [hz2]; omega
  have hK : K = ⟨#[98, 121, 116, 101]⟩ := hv.one.1
  subst hK
  obtain ⟨gh, hbs, e1, hB, hS⟩ := hv.inv_byte
  injection e1 with e1 e2 e3
  subst e1; subst e2; subst e3
  obtain ⟨gf, cf, csf, e4, hf2, hf3, hf4⟩ := hf
  injection e4 with e4 e5 e6
  subst e4; subst e5; subst e6
  have HB := Lib.hid hB
  have HS := Lib.hid hS
  have HF3 := Lib.hid hf3
  have HF4 := Lib.hid hf4
  clear hv hB hS hf3 hf4
  go_enter Try.func27, Try.ntmps27
  go_wp2_with (at_make; refine wpList_make_row _ rfl (.tmp 17) (.tmp 17) 37 rfl 4 i0 (.bool false) Try.underlying37 hinf hz0 hz1 rfl .i64 .i64 (s.size + 1) rfl rfl hby (by omega) ?_)
  go_loopg [8] (s.size + 1) (fun k u8 wr => ∃ (i : Nat) (bs : List Bool), u8 = .int .i64 (i : Int) ∧ i + k = s.size + 1 ∧ i ≤ s.size ∧ Bools wr (w.heap.size + 1) bs ∧ Hid (Laid (byteG P F (bys s)) (s.size + 1) i bs) ∧ NX wr w.heap.size ⟨#[98, 121, 116, 101]⟩ (.slice (some ⟨gh, 0, none⟩) 256 256) (.slice A2 m2 c2) ∧ Chg (fun _ => False) w wr)
  case atStart => exact ⟨0, _, rfl, by omega, by omega, made2 w _ _, Lib.hid (Laid.start rfl), blk_alloc (blk_new w _) _, ((Chg.refl (fun _ => False) w).alloc _).alloc _⟩
  case round =>
    obtain ⟨i, bs, rfl, hik, hi2, hb, hU, hbox, hch⟩ := hrel
    obtain ⟨wo, rfl⟩ : ∃ m : World, m = wr := ⟨_, rfl⟩
    have hbx := hbox.c1
    by_cases hlt : i < s.size
    · have hc1 : decide (i < s.size) = true := decide_eq_true hlt
      have hbi := bys_get s i hlt
      have HG : Hid ((F i && P s[i].toNat) = byteG P F (bys s) (i + 1)) := Lib.hid (by simp only [byteG, hbi])
      have hc256 : s[i].toNat < 256 := UInt8.toNat_lt _
      have hcF : wo.cell? ⟨gf, i, none⟩ = some (.bool (F i)) := (blk_cell (hch.blk HF3.out id)).trans (HF4.out i (by omega))
      have hcP : wo.cell? ⟨gh, s[i].toNat, none⟩ = some (.bool (P s[i].toNat)) := (HB.out.chg hch id).c (HS.out.2 _ hc256)
      obtain ⟨b0, hb0⟩ : ∃ b0, bs[i + 1]? = some b0 := ⟨_, hU.out.2 (i + 1) (by omega)⟩
      have hcb := hb.c hb0
      have hfb : wo.frozen? ⟨w.heap.size + 1, i + 1, none⟩ = false := blk_free hb
      have hi3 : (0 : Int) ≤ (i : Int) := by omega
      have hi4 : (i : Int) < (s.size : Int) := by omega
      have hi5 : (i : Int) < (s.size : Int) + 1 := by omega
      have hi6 : (0 : Int) ≤ (i : Int) + 1 := by omega
      have hi7 : (i : Int) + 1 < (s.size : Int) + 1 := by omega
      have hnt : ((i : Int) + 1).toNat = i + 1 := by omega
      have hwr : IntKind.i64.wrap ((i : Int) + 1) = (i : Int) + 1 := IntWalk.i64_in _ (by omega)
      have hc1' : (s[i].toNat : Int) < 256 := by omega
      have hc0' : (0 : Int) ≤ (s[i].toNat : Int) := by omega
      clear hb0 hbi
      generalize F i = Fi at *
      cases Fi with
      | true =>
        go_wp2
        go_region
        go_wp2
        go_roundg (gk - 1)
        case measure => omega
        case rel => exact ⟨i + 1, _, by go_num, by omega, by omega, hb.set (i + 1) _, Lib.hid (hU.out.step (by omega) HG.out), hbox.far (by simp) _, (hch.setCell (.inr (by simp)) _).drew⟩
      | false =>
        go_wp2
        go_region
        go_wp2
        go_roundg (gk - 1)
        case measure => omega
        case rel => exact ⟨i + 1, _, by go_num, by omega, by omega, hb.set (i + 1) _, Lib.hid (hU.out.step (by omega) HG.out), hbox.far (by simp) _, (hch.setCell (.inr (by simp)) _).drew⟩
    · have hc1 : decide (i < s.size) = false := decide_eq_false hlt
      obtain rfl : i = s.size := by omega
      go_wp2
      go_ret
      exact ⟨_, _, _, byteG P F (bys s), rfl, by rw [bys_len]; exact hU.out.bs (Nat.le_refl _) hb, fun m hm => byteG_iff hm, hch.below fun _ _ h => h⟩
end Go.Proofs.Ytaaonhaighdlaaa
