/- 'lay': rows, and rows with bars between; and all of it by induction. -/
import Derived.Test.YtmlmnckhiianhaaDoorRxI
namespace Go.Proofs.YtmlmnckhiianhaaDoor
set_option maxRecDepth 100000
open Go.RowKit
set_option linter.unusedVariables false
set_option linter.unusedSimpArgs false

theorem wts_mem {x : Rx} : ∀ {l : List Rx}, x ∈ l → Rx.wt x ≤ Rx.wts l
  | y :: l, h => by
    simp only [Rx.wts]
    rcases List.mem_cons.1 h with rfl | h
    · omega
    · have := wts_mem h; omega

set_option maxHeartbeats 4000000 in
theorem lay_row (xs : List Rx) (hx : ∀ x, x ∈ xs → LayOK x) (hlen : xs.length ≤ 100000) : LayOK (.row xs) := by
  intro B r nb t v l Av w hat hT hav hl ht
  have HAV := Lib.hid hav
  clear hav
  obtain ⟨q, vk, bs, hnb, _, hbl, hv, hk⟩ := hat.open
  change bs.length = xs.length at hbl
  simp only [Rx.wt] at hl
  have k0 := hnb.w0
  simp only [kindOf] at k0
  have k5 := hnb.w5
  obtain ⟨A, c, hvk, hcA⟩ : ∃ A c, vk = .slice A xs.length c ∧ xs.length ≤ c := by
    rcases hv with ⟨h1, h2⟩ | ⟨g, c, h1, h2, h3, h4⟩
    · subst h2; simp at hbl; exact ⟨none, 0, by rw [h1, ← hbl], by omega⟩
    · exact ⟨_, c, by rw [h1, hbl], by omega⟩
  subst hvk
  have hlt := hT.lt
  have hB := hT.rB
  have hroot := hat.root
  have HV := Lib.hid hv
  have HK := Lib.hid hk
  have HX := Lib.hid hx
  have HBL := Lib.hid hbl
  have HNB := Lib.hid hnb
  have HT0 := Lib.hid hT
  clear hv hk hx hbl hat hnb
  go_enter Tryd.func39, Tryd.ntmps39
  go_wp2_with fail
  go_loopg [2, 7] (xs.length + 1) (fun k v2 v7 wr => ∃ (m t' : Nat) (v' : Value) (S' : List St), v7 = .int .i64 ((m : Int) - 1) ∧ v2 = .int .i64 (t' : Int) ∧ m + 1 = k ∧ m ≤ xs.length ∧ t' ≤ 100000 ∧ Tab wr B r v' S' Av ∧ S'.length + Rx.wts (xs.take m) ≤ 100000 ∧ Chg (MayT r v) w wr ∧ NewT w v v' ∧ Hid (Rx.layRow xs t l = Rx.layRow (xs.take m) t' S'))
  case atStart => exact ⟨xs.length, t, v, l, rfl, rfl, rfl, Nat.le_refl _, ht, hT, by rw [List.take_length]; exact hl, Chg.refl _ _, fun k hk => .inl hk, Lib.hid (by rw [List.take_length])⟩
  case round =>
    obtain ⟨m, t', v', S', rfl, rfl, hmk, hm, ht', hT', hS', hc, hn, hL⟩ := hrel
    obtain ⟨wo, rfl⟩ : ∃ m : World, m = wr := ⟨_, rfl⟩
    have hnm : ∀ m, m < B → ¬ MayT r v m := (fun m hm hM => by have := HT0.out.may hM; omega)
    have j0 := hc.cell k0 (hnm _ hroot)
    have j5 := hc.cell k5 (hnm _ hroot)
    clear hnm hT
    cases m with
    | zero =>
      have HL := Lib.hid hL.out
      go_wp2_with fail
      go_ret
      have e : Rx.lay (.row xs) t l = (S', t') := by simp only [Rx.lay]; rw [hL.out]; simp [Rx.layRow]
      rw [e]
      exact ⟨rfl, v', hT', hc, hn⟩
    | succ m =>
      have hm' : m < xs.length := hm
      obtain ⟨x, hxm⟩ : ∃ x, xs[m]? = some x := ⟨_, List.getElem?_eq_getElem hm'⟩
      obtain ⟨nk, hnk⟩ : ∃ nk, bs[m]? = some nk := ⟨_, List.getElem?_eq_getElem (by rw [HBL.out]; exact hm')⟩
      obtain ⟨g, c', hA, hgB, hcell⟩ : ∃ g c', Value.slice A xs.length c = .slice (some ⟨g, 0, none⟩) bs.length c' ∧ g < B ∧ w.cell? ⟨g, m, none⟩ = some (.pointer (some ⟨nk, 0, none⟩)) := by
        rcases HV.out with ⟨_, h2⟩ | ⟨g, c1, h1, h2, h3, h4⟩
        · rw [h2] at hnk; simp at hnk
        · exact ⟨g, c1, h1, h3, h4 m nk hnk⟩
      injection hA with hA1 hA2 hA3
      subst hA1
      clear hA2 hA3 HV
      have hkid := (HK.out m nk x hnk hxm).may HT0.out hc
      have jc := hc.cell hcell (fun hM => by have := HT0.out.may hM; simp at this; omega)
      have hlx := HX.out x (List.mem_of_getElem? hxm)
      have htk : xs.take (m + 1) = xs.take m ++ [x] := by rw [List.take_add_one, hxm]; rfl
      have hwt : Rx.wts (xs.take (m + 1)) = Rx.wts (xs.take m) + Rx.wt x := by rw [htk, Rx.wts_append]; simp [Rx.wts]
      have hS1 : S'.length + Rx.wt x ≤ 100000 := by omega
      have hb1 := lay_len_le (x := x) (t := t') (l := S') hS1 ht'
      have hll := (Rx.lay_len x t' S').1
      have hS2 : (Rx.lay x t' S').1.length + Rx.wts (xs.take m) ≤ 100000 := by omega
      have HL : Hid (Rx.layRow xs t l = Rx.layRow (xs.take m) (Rx.lay x t' S').2 (Rx.lay x t' S').1) := Lib.hid (by rw [hL.out, htk, Rx.layRow_append]; simp [Rx.layRow])
      have HKD := Lib.hid hkid
      have HLX := Lib.hid hlx
      have hmI : (m : Int) < xs.length := by omega
      clear hkid hlx hxm hnk htk hwt hL hll HBL HX HK HNB hcell k0 k5 HT0
      obtain ⟨R, hR⟩ : ∃ R, R = Rx.lay x t' S' := ⟨_, rfl⟩
      rw [← hR] at hb1 hS2
      have HR := Lib.hid hR
      clear hR
      go_wp2_with (go_at_call 39; refine (HLX.out B r nk t' v' S' Av _ HKD.out hT' (fun k hk => HAV.out k (Nat.le_trans hc.size hk)) hS1 ht').mono ?_; rintro e w2 ⟨rfl, v2, hT2, hcc2, hn2⟩; rw [← HR.out] at hT2 ⊢)
      go_roundg (m + 1)
      case measure => omega
      case rel =>
        refine ⟨m, R.2, v2, R.1, rfl, rfl, rfl, by omega, hb1, hT2, hS2, chgT hc hn hcc2, hn.trans hn2 hc.size, Lib.hid ?_⟩
        rw [HR.out]; exact HL.out

theorem own_slice {w : World} {B : Nat} {e : TypeId} {sz : Nat} {v : Value} {n : Nat} {xs : List Value} (h : w.ownsRow B e sz v n xs) : ∃ A c, v = .slice A n c := by
  rcases h.2 with ⟨h1, h2⟩ | ⟨g, c, cur, h1, _⟩
  · exact ⟨none, 0, by rw [h1, h2]⟩
  · exact ⟨_, c, h1⟩

theorem Tryd.infoInt : (Tryd.prog.info? 3).map (fun i => (i.zero, i.size, i.bytes)) = some (some (.int .i64 0), 1, 8) := by kernel_rfl

set_option maxHeartbeats 4000000 in
theorem lay_either (xs : List Rx) (hx : ∀ x, x ∈ xs → LayOK x) (hlen : xs.length ≤ 100000) : LayOK (.either xs) := by
  intro B r nb t v l Av w hat hT hav hl ht
  have HAV := Lib.hid hav
  clear hav
  obtain ⟨i0, hinf, hz0, hz1, hz2⟩ := info_parts Tryd.infoInt
  obtain ⟨q, vk, bs, hnb, _, hbl, hv, hk⟩ := hat.open
  change bs.length = xs.length at hbl
  simp only [Rx.wt] at hl
  have k0 := hnb.w0
  simp only [kindOf] at k0
  have k5 := hnb.w5
  obtain ⟨A, c, hvk, hcA⟩ : ∃ A c, vk = .slice A xs.length c ∧ xs.length ≤ c := by
    rcases hv with ⟨h1, h2⟩ | ⟨g, c, h1, h2, h3, h4⟩
    · subst h2; simp at hbl; exact ⟨none, 0, by rw [h1, ← hbl], by omega⟩
    · exact ⟨_, c, by rw [h1, hbl], by omega⟩
  subst hvk
  have hlt := hT.lt
  have hB := hT.rB
  have hroot := hat.root
  have HV := Lib.hid hv
  have HK := Lib.hid hk
  have HX := Lib.hid hx
  have HBL := Lib.hid hbl
  have HNB := Lib.hid hnb
  have HT0 := Lib.hid hT
  clear hv hk hx hbl hat hnb
  go_enter Tryd.func39, Tryd.ntmps39
  go_wp2_with fail
  go_loopg [8, 58] (xs.length + 1) (fun k v8 v58 wr => ∃ (m : Nat) (v' : Value) (S' : List St) (ws : List Nat), v58 = .int .i64 (m : Int) ∧ m + k = xs.length + 1 ∧ m ≤ xs.length ∧ ws.length = m ∧ wr.ownsRow w.heap.size 3 1 v8 m (ws.map fun n : Nat => .int .i64 (n : Int)) ∧ Tab wr B r v' S' (fun k => Av k ∧ v8.ownBlock ≠ some k) ∧
    (∀ k, v8.ownBlock = some k → v'.ownBlock ≠ some k) ∧ S'.length + Rx.wts (xs.drop m) + 1 ≤ 100000 ∧ Chg (MayT r v) w wr ∧ NewT w v v' ∧ Hid (Rx.layWays (xs.take m) t l = (S', ws)))
  case atStart => exact ⟨0, v, l, [], rfl, by omega, by omega, rfl, World.ownsRow_nil _ _ _ _, hT.mono (fun k hk h => ⟨h, by simp [Value.ownBlock]⟩), fun k h => by simp [Value.ownBlock] at h, by simp only [List.drop_zero]; omega, Chg.refl _ _, fun k hk => .inl hk, Lib.hid (by simp [Rx.layWays])⟩
  case round =>
    obtain ⟨m, v', S', ws, rfl, hmk, hm, hws, hown, hT', hdis, hS', hc, hn, hL⟩ := hrel
    obtain ⟨wo, rfl⟩ : ∃ m : World, m = wr := ⟨_, rfl⟩
    clear hT
    by_cases hlt1 : m < xs.length
    · obtain ⟨x, hxm⟩ : ∃ x, xs[m]? = some x := ⟨_, List.getElem?_eq_getElem hlt1⟩
      obtain ⟨nk, hnk⟩ : ∃ nk, bs[m]? = some nk := ⟨_, List.getElem?_eq_getElem (by rw [HBL.out]; exact hlt1)⟩
      obtain ⟨g, c', hA, hgB, hcell⟩ : ∃ g c', Value.slice A xs.length c = .slice (some ⟨g, 0, none⟩) bs.length c' ∧ g < B ∧ w.cell? ⟨g, m, none⟩ = some (.pointer (some ⟨nk, 0, none⟩)) := by
        rcases HV.out with ⟨_, h2⟩ | ⟨g, c1, h1, h2, h3, h4⟩
        · rw [h2] at hnk; simp at hnk
        · exact ⟨g, c1, h1, h3, h4 m nk hnk⟩
      injection hA with hA1 hA2 hA3
      subst hA1
      clear hA2 hA3 HV
      have hkid := (HK.out m nk x hnk hxm).may HT0.out hc
      have jc := hc.cell hcell (fun hM => by have := HT0.out.may hM; simp at this; omega)
      have hlx := HX.out x (List.mem_of_getElem? hxm)
      have htk : xs.take (m + 1) = xs.take m ++ [x] := by rw [List.take_add_one, hxm]; rfl
      have hdr : xs.drop m = x :: xs.drop (m + 1) := by rw [List.drop_eq_getElem_cons hlt1]; congr 1; rw [List.getElem?_eq_getElem hlt1] at hxm; injection hxm
      have hwt : Rx.wts (xs.drop m) = Rx.wt x + Rx.wts (xs.drop (m + 1)) := by rw [hdr]; simp [Rx.wts]
      have hS1 : S'.length + Rx.wt x ≤ 100000 := by omega
      have hb1 := lay_len_le (x := x) (t := t) (l := S') hS1 ht
      have hll := (Rx.lay_len x t S').1
      have hS2 : (Rx.lay x t S').1.length + Rx.wts (xs.drop (m + 1)) + 1 ≤ 100000 := by omega
      have HL : Hid (Rx.layWays (xs.take (m + 1)) t l = ((Rx.lay x t S').1, ws ++ [(Rx.lay x t S').2])) := Lib.hid (by rw [htk, Rx.layWays_append, hL.out]; simp [Rx.layWays])
      have HKD := Lib.hid hkid
      have HLX := Lib.hid hlx
      have HWS := Lib.hid hws
      have hmI : (m : Int) < xs.length := by omega
      clear hkid hlx hxm hnk htk hwt hdr hL hll HBL HX HK HNB hcell k0 k5 hws
      obtain ⟨R, hR⟩ : ∃ R, R = Rx.lay x t S' := ⟨_, rfl⟩
      rw [← hR] at hb1 hS2
      have HR := Lib.hid hR
      have HOW := Lib.hid hown
      have HDIS := Lib.hid hdis
      clear hR hown hdis
      go_wp2_with (first | (go_at_call 39; refine (HLX.out B r nk t v' S' _ _ HKD.out hT' (fun k hk => ⟨HAV.out k (Nat.le_trans hc.size hk), fun e => by have := (HOW.out.lt k e).2; omega⟩) hS1 ht).mono ?_; rintro e w2 ⟨rfl, v2, hT2, hcc2, hn2⟩; rw [← HR.out] at hT2 ⊢) | (at_builtin; refine wpList_append_lies _ rfl (.tmp 62) (.tmp 67) 87 rfl w.heap.size 3 i0 (.int .i64 0) 1 8 Tryd.underlying87 hinf hz0 hz1 hz2 rfl (by decide) u8 m (ws.map fun n : Nat => .int .i64 (n : Int)) rfl (by exact (ownsRow_of (w' := w2) HOW.out (fun k hk => hcc2.block k (HOW.out.lt k hk).2 (fun hM => by rcases hM with rfl | hM; (have := (HOW.out.lt _ hk).1; omega); exact HDIS.out k hk hM))).alloc _) ⟨_, 0, none⟩ 1 1 [.int .i64 (R.2 : Int)] rfl rfl (World.news_of_block (blk_new _ _)) (fun u hu => by simp at hu; subst hu; rfl) (by decide) (by unfold maxLen; omega) (by omega) (by have := hcc2.size; have := hc.size; simp; omega) _ rfl ?_; intro g1 cap w3 hown3 hgr3 hor3 hlt3))
      go_roundg (gk - 1)
      case measure => omega
      case rel =>
        have hsz := hcc2.size
        have hne1 : ∀ k, k < w2.heap.size → u8.ownBlock ≠ some k → g1 ≠ k := by
          intro k hk hne e
          subst e
          rcases hor3 with h | h
          · exact hne h
          · simp at h; omega
        have hv2 : ∀ k, v2.ownBlock = some k → u8.ownBlock ≠ some k := by
          intro k hk e
          rcases hn2 k hk with h | h
          · exact HDIS.out k e h
          · have := (HOW.out.lt k e).2; omega
        have hr8 : u8.ownBlock ≠ some r := fun e => by have := (HOW.out.lt _ e).1; omega
        have hT3 : Tab w3 B r v2 R.1 (fun k => Av k ∧ u8.ownBlock ≠ some k) := (hT2.alloc _).avoid fun k hk hB hS => hgr3.block k hk (fun e => by
          rcases hS with h | h | h
          · exact hr8 (h ▸ e.symm)
          · exact hv2 k h e.symm
          · exact h.2 e.symm)
        obtain ⟨xs2, o2, _⟩ := hT2.own
        refine ⟨m + 1, v2, R.1, ws ++ [R.2], by go_num, by omega, by omega, by rw [List.length_append, HWS.out]; rfl, ?_, ?_, ?_, hS2, ?_, hn.trans hn2 hc.size, Lib.hid ?_⟩
        · rw [List.map_append]; exact hown3
        · have hT4 := (hT2.mono (Av' := fun k => (Av k ∧ u8.ownBlock ≠ some k) ∧ g1 ≠ k) (fun k hk h => ⟨h, hne1 k hk h.2⟩)).alloc (.cells #[.int .i64 (R.2 : Int)] 3)
          refine (hT4.avoid (w' := w3) fun k hk hB hS => hgr3.block k hk (fun e => ?_)).mono (fun k hk h => ⟨h.1.1, by simpa [Value.ownBlock] using h.2⟩)
          rcases hS with h | h | h
          · exact hr8 (h ▸ e.symm)
          · exact hv2 k h e.symm
          · exact h.1.2 e.symm
        · intro k hk
          simp [Value.ownBlock] at hk
          subst hk
          intro e
          exact hne1 g1 (o2.lt _ e).2 (hv2 _ e) rfl
        · exact ((chgT hc hn hcc2).alloc _).grown hgr3 (fun k hk => .inr (HOW.out.lt k hk).1)
        · rw [HR.out]; exact HL.out
    · obtain ⟨A8, c8, rfl⟩ := own_slice hown
      have hm2 : m = xs.length := by omega
      have HM := Lib.hid hm2
      have HOW := Lib.hid hown
      have HWS := Lib.hid hws
      have hle : decide (m < xs.length) = false := decide_eq_false hlt1
      have hLL : Rx.layWays xs t l = (S', ws) := by have := hL.out; rw [hm2, List.take_length] at this; exact this
      have HLL := Lib.hid hLL
      have hnx : Nx wo (fun k => B ≤ k ∧ k ≠ r ∧ some k ≠ v'.ownBlock ∧ Av k) (.slice A8 m c8) ws := Nx.of_own (by rw [hws]; exact hown) (fun k hk => ⟨by have := (hown.lt k hk).1; omega, fun e => by have := (hown.lt k hk).1; omega, fun e => hdis k hk e.symm, HAV.out k (hown.lt k hk).1⟩)
      have HNX := Lib.hid hnx
      have hT5 : Tab wo B r v' S' Av := hT'.mono (fun k hk h => h.1)
      have hb : S'.length ≤ 100000 := by omega
      clear hm2 hown hws hLL hL hlt1 hnx hT' hdis
      go_wp2_with (go_at_call 38; refine (add_calls B r v' S' Av (fun _ => 0) ⟨fun _ => false, false, ws⟩ _ _ hT5 SetV.zero HNX.out hb).mono ?_; rintro e w2 ⟨rfl, v2, hT2, hcc2, hn2⟩)
      go_ret
      have e : Rx.lay (.either xs) t l = (S' ++ [⟨fun _ => false, false, ws⟩], S'.length) := by simp only [Rx.lay]; rw [HLL.out]
      rw [e]
      exact ⟨rfl, v2, hT2, chgT hc hn hcc2, hn.trans hn2 hc.size⟩

theorem lay_calls : ∀ (n : Nat) (x : Rx), SizeOf.sizeOf x ≤ n → Rx.sz x ≤ 100000 → LayOK x
  | 0, x, h, _ => by cases x <;> simp at h
  | n + 1, x, h, hw => by
    have kids : ∀ xs : List Rx, SizeOf.sizeOf xs < n + 1 → Rx.szs xs ≤ 100000 → ∀ x, x ∈ xs → LayOK x := fun xs hs hws x hx =>
      lay_calls n x (by have := List.sizeOf_lt_of_mem hx; omega) (by have := Rx.szs_mem hx; omega)
    cases x with
    | byte p => exact lay_byte p
    | row l => exact lay_row l (kids l (by simp at h; omega) (by simp [Rx.sz] at hw; omega)) (by have := Rx.szs_len l; simp [Rx.sz] at hw; omega)
    | either l => exact lay_either l (kids l (by simp at h; omega) (by simp [Rx.sz] at hw; omega)) (by have := Rx.szs_len l; simp [Rx.sz] at hw; omega)
    | star r => exact lay_loop r (lay_calls n r (by simp at h; omega) (by simp [Rx.sz] at hw; omega)) _ (.inl rfl)
    | plus r => exact lay_loop r (lay_calls n r (by simp at h; omega) (by simp [Rx.sz] at hw; omega)) _ (.inr rfl)
    | maybe r => exact lay_maybe r (lay_calls n r (by simp at h; omega) (by simp [Rx.sz] at hw; omega))
end Go.Proofs.YtmlmnckhiianhaaDoor
