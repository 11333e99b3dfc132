/- MatchNarrows, walked. -/
import Derived.Test.YtmlmnckhiianhaaDoorMaU
import Derived.Deep.RegionWith
namespace Go.Proofs.YtmlmnckhiianhaaDoor
open Go.RowKit
set_option linter.unusedVariables false
set_option linter.unusedSimpArgs false

theorem holdsAll_append (l m : List SM) (u : List Lbl) : holdsAll ((l ++ m).map toMat) u = (holdsAll (l.map toMat) u && holdsAll (m.map toMat) u) := by
  unfold holdsAll
  rw [List.map_append, List.all_append]
theorem flatM_append : ∀ l m : List SM, flatM (l ++ m) = flatM l ++ flatM m
  | [], m => rfl
  | a :: l, m => by simp [flatM, flatM_append l m]
/-- The cells of a slice of matchers, all of them. -/
theorem MS.cells {w : World} {A : Addr} {l : List SM} {c : Nat} (h : MS w (.slice (some A) l.length c) l) : ∀ j u, (flatM l)[j]? = some u → w.cell? (A.add j) = some u := by
  obtain ⟨A', c', e, hn, hm⟩ := h
  injection e with e1 e2 e3
  intro j u hu
  have hj := (List.getElem?_eq_some_iff.1 hu).1
  rw [flatM_len] at hj
  obtain ⟨x, hx⟩ : ∃ x, l[j / 3]? = some x := ⟨_, List.getElem?_eq_getElem (by omega)⟩
  obtain ⟨g, o, h1, h2⟩ := hm (j / 3) x hx
  rw [← e1] at h1
  injection h1 with h1
  subst h1
  have h3 : (smCells x)[j % 3]? = some u := by
    have hlt : j % 3 < 3 := Nat.mod_lt _ (by decide)
    obtain ⟨v, hv⟩ : ∃ v, (smCells x)[j % 3]? = some v := ⟨_, List.getElem?_eq_getElem (by simpa [smCells] using hlt)⟩
    have := flatM_get l (j / 3) x hx (j % 3) v hv
    rw [Nat.mul_comm, Nat.div_add_mod] at this
    rw [this] at hu
    rw [hv]; exact hu
  have h4 := h2 (j % 3) u h3
  have e4 : o + j / 3 * 3 + j % 3 = o + j := by have := Nat.div_add_mod j 3; omega
  rw [e4] at h4
  unfold Addr.add
  split
  · rename_i h0; subst h0; exact h4
  · exact h4
theorem flatM_one : ∀ (l : List SM) (u : Value), u ∈ flatM l → u.oneCell' = true
  | [], u, h => by simp [flatM] at h
  | a :: l, u, h => by
    simp only [flatM, List.mem_cons] at h
    rcases h with rfl | rfl | rfl | h
    · rfl
    · rfl
    · rfl
    · exact flatM_one l u h

theorem wp_join {P : Program} {cd : Code} {a : Act} {w : World} {Q : Exit → Act → World → Prop} (F : Act → Act → World → Prop) (h : cd.wp P (fun e a' w' => e = .normal ∧ F a a' w') a w) (k : ∀ a' w', F a a' w' → Q .normal a' w') : cd.wp P Q a w :=
  Code.wp_mono (fun e a' w' ⟨he, hf⟩ => by subst he; exact k a' w' hf) h

set_option maxRecDepth 100000 in
set_option maxHeartbeats 4000000 in
theorem narrows_calls (v u : Value) (y : SM) (l : List SM) (x : List (ByteArray × ByteArray)) (w : World) (hl : MS w v l) (h40 : l.length * 40 ≤ 140737488351232) (hx : LS w u x) (ho : Ops w) :
    Calls Tryd.prog 4 #[v, .agg #[.string y.name, .int .i64 y.op, .string y.value], u] w fun e w' => e = .returned (.bool true) ∧ Below w.heap.size w w' := by
  obtain ⟨i0, hinf, hz0, hz1, hz2⟩ := info_parts Tryd.infoRefM
  have HL := Lib.hid hl
  have HX := Lib.hid hx
  obtain ⟨A, c, rfl, hn, hm⟩ := hl
  obtain ⟨lA, lc, rfl, -⟩ := hx
  clear hm
  by_cases hz : l.length = 0
  · obtain rfl := List.length_eq_zero_iff.1 hz
    clear hz
    have HL0 : Hid (MS w (.slice A 0 c) []) := HL
    clear HL
    rcases A with _ | A1
    · go_enter Tryd.func4, Tryd.ntmps4
      go_upto_region 2 with fail
      refine wp_join (F := fun a a' w' => ∃ v16 v18 v20 g2 cap2, a' = ((((((a.put (some 16) v16).put (some 17) (.slice none 0 c)).put (some 18) v18).put (some 19) (.agg #[.string y.name, .int .i64 y.op, .string y.value])).put (some 20) v20).put (some 21) (.slice (some ⟨g2, 0, none⟩) 1 cap2)).put (some 7) (.slice (some ⟨g2, 0, none⟩) 1 cap2) ∧ MS w' (.slice (some ⟨g2, 0, none⟩) 1 cap2) [y] ∧ Below w.heap.size w w') ?_ ?_
      · refine wp_region_G (S := fun u => Below w.heap.size w u ∧ u.heap[w.heap.size]? = some (.cells #[.string y.name, .int .i64 y.op, .string y.value] 28 (0, 0))) (T := fun u => Below w.heap.size w u ∧ u.heap[w.heap.size]? = some (.cells #[.string y.name, .int .i64 y.op, .string y.value] 28 (0, 0))) (late := fun _ => true) (by kernel_rfl) ?_
        have HS0 := Lib.hid (show (fun u : World => Below w.heap.size w u ∧ u.heap[w.heap.size]? = some (.cells #[.string y.name, .int .i64 y.op, .string y.value] 28 (0, 0))) (w.alloc (.cells #[.string y.name, .int .i64 y.op, .string y.value] 28)).drew from ⟨((Chg.of_below (M := fun _ => False) ((Below.refl _ _).alloc (Nat.le_refl _) _)).drew).below (fun k _ h => h), blk_new _ _⟩)
        refine anyG_takeS (i := 1) (d := some 17) (v := .slice none 0 c) rfl rfl (by kernel_rfl) (by kernel_rfl) (by kernel_rfl) rfl (fun _ _ _ h => h) HS0.out (.inl ⟨rfl, fun _ _ => rfl⟩) ?_
        simp only [Act.put, List.setIfInBounds_toArray, List.set_cons_zero, List.set_cons_succ]
        refine anyG_takeS (i := 3) (d := some 19) (v := .agg #[.string y.name, .int .i64 y.op, .string y.value]) rfl rfl (by kernel_rfl) (by kernel_rfl) (by kernel_rfl) rfl (fun _ _ _ h => h) HS0.out (yieldsIf_load_mid rfl 28 (.tmp 4) rfl w.heap.size 0 rfl [.string y.name, .int .i64 y.op, .string y.value] _ (fun u hu => blk_range hu.2) Tryd.underlying28 rfl (by kernel_rfl)) ?_
        simp only [Act.put, List.setIfInBounds_toArray, List.set_cons_zero, List.set_cons_succ]
        refine anyG_all (rs := [0, 4]) (by kernel_rfl) (by simp) ?_
        intro j hj
        simp only [List.mem_cons, List.not_mem_nil, or_false] at hj
        rcases hj with rfl | rfl
        · refine anyG_op (late := fun _ => true) (i := 0) (o := { dst := some 16, op := .buildSlice 22 0 #[], type := 22, pos := "law.go:119", after := #[], guard := none }) (by rfl) (by rfl) (fun K' hK => ?_)
          go_simp
          refine hK.out _ _ ⟨(by first | exact HS0.out.1.alloc (by first | (simp; done) | (simp; omega)) _ | exact (HS0.out.1.alloc (by first | (simp; done) | (simp; omega)) _).alloc (by first | (simp; done) | (simp; omega)) _), (by first | exact blk_alloc HS0.out.2 _ | exact blk_alloc (blk_alloc HS0.out.2 _) _)⟩ (fun e => absurd e (by decide)) ?_
          clear hK K'
          refine anyG_all (rs := [2, 4]) (by kernel_rfl) (by simp) ?_
          intro j hj
          simp only [List.mem_cons, List.not_mem_nil, or_false] at hj
          rcases hj with rfl | rfl
          · refine anyG_op (late := fun _ => true) (i := 2) (o := { dst := some 18, op := .call { callee := .builtin .append, args := #[.tmp 16, .tmp 17], argTypes := #[22, 22] }, type := 22, pos := "law.go:119", after := #[{ on := 0, ground := .data }, { on := 1, ground := .data }], guard := none }) (by rfl) (by rfl) (fun K' hK => ?_)
            go_simp
            refine hK.out _ _ ⟨(by first | exact HS0.out.1.alloc (by first | (simp; done) | (simp; omega)) _ | exact (HS0.out.1.alloc (by first | (simp; done) | (simp; omega)) _).alloc (by first | (simp; done) | (simp; omega)) _), (by first | exact blk_alloc HS0.out.2 _ | exact blk_alloc (blk_alloc HS0.out.2 _) _)⟩ (fun e => absurd e (by decide)) ?_
            clear hK K'
            refine anyG_all (rs := [4]) (by kernel_rfl) (by simp) ?_
            intro j hj
            simp only [List.mem_cons, List.not_mem_nil, or_false] at hj
            subst hj
            refine anyG_op (late := fun _ => true) (i := 4) (o := { dst := some 20, op := .buildSlice 22 1 #[(0, .tmp 19)], type := 22, pos := "law.go:119", after := #[{ on := 3, ground := .data }], guard := none }) (by rfl) (by rfl) (fun K' hK => ?_)
            go_simp
            refine hK.out _ _ ⟨(by first | exact HS0.out.1.alloc (by first | (simp; done) | (simp; omega)) _ | exact (HS0.out.1.alloc (by first | (simp; done) | (simp; omega)) _).alloc (by first | (simp; done) | (simp; omega)) _), (by first | exact blk_alloc HS0.out.2 _ | exact blk_alloc (blk_alloc HS0.out.2 _) _)⟩ (fun e => absurd e (by decide)) ?_
            clear hK K'
            refine anyG_all (rs := [5]) (by kernel_rfl) (by simp) ?_
            intro j hj
            simp only [List.mem_cons, List.not_mem_nil, or_false] at hj
            subst hj
            refine anyG_op (late := fun _ => true) (i := 5) (o := { dst := some 21, op := .call { callee := .builtin .append, args := #[.tmp 18, .tmp 20], argTypes := #[22, 22] }, type := 22, pos := "law.go:119", after := #[{ on := 2, ground := .data }, { on := 4, ground := .data }, { on := 2, ground := .chain }], guard := none }) (by rfl) (by rfl) (fun K' hK => ?_)
            refine wp_append_lies _ (.tmp 18) (.tmp 20) 22 (by rfl) (w.heap.size + 1) 28 i0 (.agg #[.string ⟨#[]⟩, .int .i64 0, .string ⟨#[]⟩]) 3 40 Tryd.underlying22 hinf hz0 hz1 hz2 rfl (by decide) (.slice (some ⟨_, 0, none⟩) 0 0) 0 [] (by rfl) (by exact ⟨rfl, .inr ⟨_, 0, #[], rfl, (by first | exact Nat.le_refl _ | (simp; done) | (simp; omega) | omega), (by first | exact blk_new _ _ | exact blk_alloc (blk_new _ _) _ | exact blk_new' _ _ _ (by simp) | exact blk_alloc (blk_new' _ _ _ (by simp)) _), by simp, by simp, by simp, by simp⟩⟩) ⟨_, 0, none⟩ 1 1 [.string y.name, .int .i64 y.op, .string y.value] (by rfl) rfl (World.news_of_block (by first | exact blk_new _ _ | exact blk_alloc (blk_new _ _) _ | exact blk_new' _ _ _ (by simp) | exact blk_alloc (blk_new' _ _ _ (by simp)) _)) (fun u hu => by simp at hu; rcases hu with rfl | rfl | rfl <;> rfl) (by decide) (by unfold maxLen; omega) (by omega) (by simp; first | done | omega) _ rfl (fun g2 cap2 w5 hown5 hgr5 hor5 hlt5 => ?_)
            simp only [Nat.zero_add, List.nil_append] at hown5
            have HS5 : Hid (Below w.heap.size w w5 ∧ w5.heap[w.heap.size]? = some (.cells #[.string y.name, .int .i64 y.op, .string y.value] 28 (0, 0))) := Lib.hid ⟨Chg.below ((Chg.of_below (M := fun k => w.heap.size ≤ k) (by first | exact HS0.out.1.alloc (by first | (simp; done) | (simp; omega)) _ | exact (HS0.out.1.alloc (by first | (simp; done) | (simp; omega)) _).alloc (by first | (simp; done) | (simp; omega)) _)).grown hgr5 (fun k hk => .inl (by simp [Value.ownBlock] at hk; omega))) (fun k hk h => by omega), blk_grown (by first | exact blk_alloc HS0.out.2 _ | exact blk_alloc (blk_alloc HS0.out.2 _) _) hgr5 (by simp [Value.ownBlock]; first | done | omega)⟩
            refine hK.out _ _ HS5.out (fun e => absurd e (by decide)) ?_
            clear hK K'
            simp only [Nat.zero_add, Act.put, List.setIfInBounds_toArray, List.set_cons_zero, List.set_cons_succ]
            refine anyG_takeS (i := 6) (d := some 7) (v := .slice (some ⟨g2, 0, none⟩) 1 cap2) rfl rfl (by kernel_rfl) (by kernel_rfl) (by kernel_rfl) rfl (fun _ _ _ h => h) HS5.out (.inl ⟨rfl, fun _ _ => rfl⟩) ?_
            simp only [Act.put, List.setIfInBounds_toArray, List.set_cons_zero, List.set_cons_succ]
            refine anyG_end (by kernel_rfl) (NoPanic.normal ⟨rfl, _, _, _, g2, cap2, rfl, ?_, HS5.out.1⟩)
            exact MS.of_row (l := [y]) (w := w5) (v := .slice (some ⟨g2, 0, none⟩) 1 cap2) hown5 (by simp)
          · refine anyG_op (late := fun _ => true) (i := 4) (o := { dst := some 20, op := .buildSlice 22 1 #[(0, .tmp 19)], type := 22, pos := "law.go:119", after := #[{ on := 3, ground := .data }], guard := none }) (by rfl) (by rfl) (fun K' hK => ?_)
            go_simp
            refine hK.out _ _ ⟨(by first | exact HS0.out.1.alloc (by first | (simp; done) | (simp; omega)) _ | exact (HS0.out.1.alloc (by first | (simp; done) | (simp; omega)) _).alloc (by first | (simp; done) | (simp; omega)) _), (by first | exact blk_alloc HS0.out.2 _ | exact blk_alloc (blk_alloc HS0.out.2 _) _)⟩ (fun e => absurd e (by decide)) ?_
            clear hK K'
            refine anyG_all (rs := [2]) (by kernel_rfl) (by simp) ?_
            intro j hj
            simp only [List.mem_cons, List.not_mem_nil, or_false] at hj
            subst hj
            refine anyG_op (late := fun _ => true) (i := 2) (o := { dst := some 18, op := .call { callee := .builtin .append, args := #[.tmp 16, .tmp 17], argTypes := #[22, 22] }, type := 22, pos := "law.go:119", after := #[{ on := 0, ground := .data }, { on := 1, ground := .data }], guard := none }) (by rfl) (by rfl) (fun K' hK => ?_)
            go_simp
            refine hK.out _ _ ⟨(by first | exact HS0.out.1.alloc (by first | (simp; done) | (simp; omega)) _ | exact (HS0.out.1.alloc (by first | (simp; done) | (simp; omega)) _).alloc (by first | (simp; done) | (simp; omega)) _), (by first | exact blk_alloc HS0.out.2 _ | exact blk_alloc (blk_alloc HS0.out.2 _) _)⟩ (fun e => absurd e (by decide)) ?_
            clear hK K'
            refine anyG_all (rs := [5]) (by kernel_rfl) (by simp) ?_
            intro j hj
            simp only [List.mem_cons, List.not_mem_nil, or_false] at hj
            subst hj
            refine anyG_op (late := fun _ => true) (i := 5) (o := { dst := some 21, op := .call { callee := .builtin .append, args := #[.tmp 18, .tmp 20], argTypes := #[22, 22] }, type := 22, pos := "law.go:119", after := #[{ on := 2, ground := .data }, { on := 4, ground := .data }, { on := 2, ground := .chain }], guard := none }) (by rfl) (by rfl) (fun K' hK => ?_)
            refine wp_append_lies _ (.tmp 18) (.tmp 20) 22 (by rfl) (w.heap.size + 1) 28 i0 (.agg #[.string ⟨#[]⟩, .int .i64 0, .string ⟨#[]⟩]) 3 40 Tryd.underlying22 hinf hz0 hz1 hz2 rfl (by decide) (.slice (some ⟨_, 0, none⟩) 0 0) 0 [] (by rfl) (by exact ⟨rfl, .inr ⟨_, 0, #[], rfl, (by first | exact Nat.le_refl _ | (simp; done) | (simp; omega) | omega), (by first | exact blk_new _ _ | exact blk_alloc (blk_new _ _) _ | exact blk_new' _ _ _ (by simp) | exact blk_alloc (blk_new' _ _ _ (by simp)) _), by simp, by simp, by simp, by simp⟩⟩) ⟨_, 0, none⟩ 1 1 [.string y.name, .int .i64 y.op, .string y.value] (by rfl) rfl (World.news_of_block (by first | exact blk_new _ _ | exact blk_alloc (blk_new _ _) _ | exact blk_new' _ _ _ (by simp) | exact blk_alloc (blk_new' _ _ _ (by simp)) _)) (fun u hu => by simp at hu; rcases hu with rfl | rfl | rfl <;> rfl) (by decide) (by unfold maxLen; omega) (by omega) (by simp; first | done | omega) _ rfl (fun g2 cap2 w5 hown5 hgr5 hor5 hlt5 => ?_)
            simp only [Nat.zero_add, List.nil_append] at hown5
            have HS5 : Hid (Below w.heap.size w w5 ∧ w5.heap[w.heap.size]? = some (.cells #[.string y.name, .int .i64 y.op, .string y.value] 28 (0, 0))) := Lib.hid ⟨Chg.below ((Chg.of_below (M := fun k => w.heap.size ≤ k) (by first | exact HS0.out.1.alloc (by first | (simp; done) | (simp; omega)) _ | exact (HS0.out.1.alloc (by first | (simp; done) | (simp; omega)) _).alloc (by first | (simp; done) | (simp; omega)) _)).grown hgr5 (fun k hk => .inl (by simp [Value.ownBlock] at hk; omega))) (fun k hk h => by omega), blk_grown (by first | exact blk_alloc HS0.out.2 _ | exact blk_alloc (blk_alloc HS0.out.2 _) _) hgr5 (by simp [Value.ownBlock]; first | done | omega)⟩
            refine hK.out _ _ HS5.out (fun e => absurd e (by decide)) ?_
            clear hK K'
            simp only [Nat.zero_add, Act.put, List.setIfInBounds_toArray, List.set_cons_zero, List.set_cons_succ]
            refine anyG_takeS (i := 6) (d := some 7) (v := .slice (some ⟨g2, 0, none⟩) 1 cap2) rfl rfl (by kernel_rfl) (by kernel_rfl) (by kernel_rfl) rfl (fun _ _ _ h => h) HS5.out (.inl ⟨rfl, fun _ _ => rfl⟩) ?_
            simp only [Act.put, List.setIfInBounds_toArray, List.set_cons_zero, List.set_cons_succ]
            refine anyG_end (by kernel_rfl) (NoPanic.normal ⟨rfl, _, _, _, g2, cap2, rfl, ?_, HS5.out.1⟩)
            exact MS.of_row (l := [y]) (w := w5) (v := .slice (some ⟨g2, 0, none⟩) 1 cap2) hown5 (by simp)
        · refine anyG_op (late := fun _ => true) (i := 4) (o := { dst := some 20, op := .buildSlice 22 1 #[(0, .tmp 19)], type := 22, pos := "law.go:119", after := #[{ on := 3, ground := .data }], guard := none }) (by rfl) (by rfl) (fun K' hK => ?_)
          go_simp
          refine hK.out _ _ ⟨(by first | exact HS0.out.1.alloc (by first | (simp; done) | (simp; omega)) _ | exact (HS0.out.1.alloc (by first | (simp; done) | (simp; omega)) _).alloc (by first | (simp; done) | (simp; omega)) _), (by first | exact blk_alloc HS0.out.2 _ | exact blk_alloc (blk_alloc HS0.out.2 _) _)⟩ (fun e => absurd e (by decide)) ?_
          clear hK K'
          refine anyG_all (rs := [0]) (by kernel_rfl) (by simp) ?_
          intro j hj
          simp only [List.mem_cons, List.not_mem_nil, or_false] at hj
          subst hj
          refine anyG_op (late := fun _ => true) (i := 0) (o := { dst := some 16, op := .buildSlice 22 0 #[], type := 22, pos := "law.go:119", after := #[], guard := none }) (by rfl) (by rfl) (fun K' hK => ?_)
          go_simp
          refine hK.out _ _ ⟨(by first | exact HS0.out.1.alloc (by first | (simp; done) | (simp; omega)) _ | exact (HS0.out.1.alloc (by first | (simp; done) | (simp; omega)) _).alloc (by first | (simp; done) | (simp; omega)) _), (by first | exact blk_alloc HS0.out.2 _ | exact blk_alloc (blk_alloc HS0.out.2 _) _)⟩ (fun e => absurd e (by decide)) ?_
          clear hK K'
          refine anyG_all (rs := [2]) (by kernel_rfl) (by simp) ?_
          intro j hj
          simp only [List.mem_cons, List.not_mem_nil, or_false] at hj
          subst hj
          refine anyG_op (late := fun _ => true) (i := 2) (o := { dst := some 18, op := .call { callee := .builtin .append, args := #[.tmp 16, .tmp 17], argTypes := #[22, 22] }, type := 22, pos := "law.go:119", after := #[{ on := 0, ground := .data }, { on := 1, ground := .data }], guard := none }) (by rfl) (by rfl) (fun K' hK => ?_)
          go_simp
          refine hK.out _ _ ⟨(by first | exact HS0.out.1.alloc (by first | (simp; done) | (simp; omega)) _ | exact (HS0.out.1.alloc (by first | (simp; done) | (simp; omega)) _).alloc (by first | (simp; done) | (simp; omega)) _), (by first | exact blk_alloc HS0.out.2 _ | exact blk_alloc (blk_alloc HS0.out.2 _) _)⟩ (fun e => absurd e (by decide)) ?_
          clear hK K'
          refine anyG_all (rs := [5]) (by kernel_rfl) (by simp) ?_
          intro j hj
          simp only [List.mem_cons, List.not_mem_nil, or_false] at hj
          subst hj
          refine anyG_op (late := fun _ => true) (i := 5) (o := { dst := some 21, op := .call { callee := .builtin .append, args := #[.tmp 18, .tmp 20], argTypes := #[22, 22] }, type := 22, pos := "law.go:119", after := #[{ on := 2, ground := .data }, { on := 4, ground := .data }, { on := 2, ground := .chain }], guard := none }) (by rfl) (by rfl) (fun K' hK => ?_)
          refine wp_append_lies _ (.tmp 18) (.tmp 20) 22 (by rfl) (w.heap.size + 1) 28 i0 (.agg #[.string ⟨#[]⟩, .int .i64 0, .string ⟨#[]⟩]) 3 40 Tryd.underlying22 hinf hz0 hz1 hz2 rfl (by decide) (.slice (some ⟨_, 0, none⟩) 0 0) 0 [] (by rfl) (by exact ⟨rfl, .inr ⟨_, 0, #[], rfl, (by first | exact Nat.le_refl _ | (simp; done) | (simp; omega) | omega), (by first | exact blk_new _ _ | exact blk_alloc (blk_new _ _) _ | exact blk_new' _ _ _ (by simp) | exact blk_alloc (blk_new' _ _ _ (by simp)) _), by simp, by simp, by simp, by simp⟩⟩) ⟨_, 0, none⟩ 1 1 [.string y.name, .int .i64 y.op, .string y.value] (by rfl) rfl (World.news_of_block (by first | exact blk_new _ _ | exact blk_alloc (blk_new _ _) _ | exact blk_new' _ _ _ (by simp) | exact blk_alloc (blk_new' _ _ _ (by simp)) _)) (fun u hu => by simp at hu; rcases hu with rfl | rfl | rfl <;> rfl) (by decide) (by unfold maxLen; omega) (by omega) (by simp; first | done | omega) _ rfl (fun g2 cap2 w5 hown5 hgr5 hor5 hlt5 => ?_)
          simp only [Nat.zero_add, List.nil_append] at hown5
          have HS5 : Hid (Below w.heap.size w w5 ∧ w5.heap[w.heap.size]? = some (.cells #[.string y.name, .int .i64 y.op, .string y.value] 28 (0, 0))) := Lib.hid ⟨Chg.below ((Chg.of_below (M := fun k => w.heap.size ≤ k) (by first | exact HS0.out.1.alloc (by first | (simp; done) | (simp; omega)) _ | exact (HS0.out.1.alloc (by first | (simp; done) | (simp; omega)) _).alloc (by first | (simp; done) | (simp; omega)) _)).grown hgr5 (fun k hk => .inl (by simp [Value.ownBlock] at hk; omega))) (fun k hk h => by omega), blk_grown (by first | exact blk_alloc HS0.out.2 _ | exact blk_alloc (blk_alloc HS0.out.2 _) _) hgr5 (by simp [Value.ownBlock]; first | done | omega)⟩
          refine hK.out _ _ HS5.out (fun e => absurd e (by decide)) ?_
          clear hK K'
          simp only [Nat.zero_add, Act.put, List.setIfInBounds_toArray, List.set_cons_zero, List.set_cons_succ]
          refine anyG_takeS (i := 6) (d := some 7) (v := .slice (some ⟨g2, 0, none⟩) 1 cap2) rfl rfl (by kernel_rfl) (by kernel_rfl) (by kernel_rfl) rfl (fun _ _ _ h => h) HS5.out (.inl ⟨rfl, fun _ _ => rfl⟩) ?_
          simp only [Act.put, List.setIfInBounds_toArray, List.set_cons_zero, List.set_cons_succ]
          refine anyG_end (by kernel_rfl) (NoPanic.normal ⟨rfl, _, _, _, g2, cap2, rfl, ?_, HS5.out.1⟩)
          exact MS.of_row (l := [y]) (w := w5) (v := .slice (some ⟨g2, 0, none⟩) 1 cap2) hown5 (by simp)
      · rintro a' w2 ⟨v16, v18, v20, g2, cap2, rfl, hall, hb2⟩
        simp only [Act.put, List.setIfInBounds_toArray, List.set_cons_zero, List.set_cons_succ]
        have HALL := Lib.hid hall
        clear hall
        have HVD : Hid (holdsAll (([] : List SM).map toMat) (x.map toLbl) = true) := Lib.hid rfl
        by_cases hc : checkErr ([y].map toMat) = 0
        · have HC := Lib.hid hc
          obtain ⟨W1, hW1⟩ : ∃ V, holdsAll ([y].map toMat) (x.map toLbl) = V := ⟨_, rfl⟩
          have HVB := Lib.hid hW1
          clear hc hW1
          cases W1
          all_goals go_wp2_with (first | (go_at_call 8; (fail_if_success (have := hbL)); ((refine (light_calls _ _ [y] x _ HALL.out (HX.out.below hb2)).mono ?_); rintro e w3 ⟨lb, rfl, hlb, hbL⟩; cases lb)) | (go_at_call 9; (fail_if_success (have := hbK)); ((refine (check_calls _ [y] _ (HALL.out.below hbL)).mono ?_); rintro e w4 ⟨rfl, hbK⟩; rw [HC.out]; have HB4 := Lib.hid (below_thn (below_thn hb2 hbL) hbK))) | (go_at_call 10; (fail_if_success (have := hbW)); ((refine (awake12_calls _ (by first | exact ((ho.below hb2).below hbL).below hbK | exact (ho.below hb2).below hbL)).mono ?_); rintro e w9 ⟨rfl, hbW⟩)) | (go_at_call 12; (fail_if_success (have := hbT1)); ((refine (to_calls _ [] _ (HL0.out.below HB4.out) (by simp)).mono ?_); rintro e w5 ⟨v1, rfl, hv1, hbT1⟩; have HV1 := Lib.hid hv1; have HB5 := Lib.hid (below_thn HB4.out hbT1); clear hv1)) | (go_at_call 11; (fail_if_success (have := hbN1)); ((refine (new_ok _ [] _ HV1.out rfl).mono ?_); rintro e w6 ⟨⟨ga, rfl, hsa⟩, hbN1⟩; have HSA := Lib.hid hsa; have HB6 := Lib.hid (below_thn HB5.out hbN1); clear hsa)) | (go_at_call 12; (fail_if_success (have := hbT2)); ((refine (to_calls _ [y] _ ((((HALL.out.below hbL).below hbK).below hbT1).below hbN1) (by simp)).mono ?_); rintro e w7 ⟨v2, rfl, hv2, hbT2⟩; have HV2 := Lib.hid hv2; have HB7 := Lib.hid (below_thn HB6.out hbT2); clear hv2)) | (go_at_call 11; (fail_if_success (have := hbN2)); ((refine (new_ok _ [y] _ HV2.out HC.out).mono ?_); rintro e w8 ⟨⟨gb, rfl, hsb⟩, hbN2⟩; have HSB := Lib.hid hsb; have HB8 := Lib.hid (below_thn HB7.out hbN2); clear hsb)) | (go_at_call 12; (fail_if_success (have := hbT3)); ((refine (to_calls _ [] _ ⟨_, _, rfl, by simp, fun i x hx => by simp at hx⟩ (by simp)).mono ?_); rintro e w11 ⟨v3, rfl, hv3, hbT3⟩; have HV3 := Lib.hid hv3; have HB11 := Lib.hid (below_thn (below_thn HB8.out (Below.alloc (Below.refl _ _) (Nat.le_refl _) _)) hbT3); clear hv3)) | (go_at_call 11; (fail_if_success (have := hbN3)); ((refine (new_ok _ [] _ HV3.out rfl).mono ?_); rintro e w12 ⟨⟨gc, rfl, hsc⟩, hbN3⟩; have HSC := Lib.hid hsc; have HB12 := Lib.hid (below_thn HB11.out hbN3); clear hsc)) | (go_at_call 11; (fail_if_success (have := hbN4)); ((refine (new_ok _ [] _ ⟨none, 0, rfl, by simp, fun i x hx => by simp at hx⟩ rfl).mono ?_); rintro e w13 ⟨⟨gd, rfl, hsd⟩, hbN4⟩; have HSD := Lib.hid hsd; have HBW := Lib.hid (below_thn HB12.out hbN4); have HSC := Lib.hid (HSC.out.below hbN4); have HSB := Lib.hid ((((HSB.out.below (Below.alloc (Below.refl _ _) (Nat.le_refl _) _)).below hbT3).below hbN3).below hbN4); have HSA := Lib.hid ((((((HSA.out.below hbT2).below hbN2).below (Below.alloc (Below.refl _ _) (Nat.le_refl _) _)).below hbT3).below hbN3).below hbN4); have HXX := Lib.hid (HX.out.below HBW.out); clear hsd)) | (go_at_call 10; (refine (awake12_calls _ (ho.below HBW.out)).mono ?_); rintro e wQ ⟨rfl, hbQ⟩; have HSA := Lib.hid (HSA.out.below hbQ); have HSB := Lib.hid (HSB.out.below hbQ); have HSC := Lib.hid (HSC.out.below hbQ); have HSD := Lib.hid (HSD.out.below hbQ); have HXX := Lib.hid (HXX.out.below hbQ); have HBW := Lib.hid (below_thn HBW.out hbQ)) | (go_at_call_of 13 (Value.pointer (some ⟨ga, 0, none⟩)); (refine (selMatch_calls ga [] _ HSA.out (check_mats (l := []) rfl) _ x HXX.out (fun z hz => hlb (by first | trivial | rfl) z hz)).mono ?_); rintro e wQ ⟨rfl, hbQ⟩; rw [HVD.out]; have HSA := Lib.hid (HSA.out.below hbQ); have HSB := Lib.hid (HSB.out.below hbQ); have HSC := Lib.hid (HSC.out.below hbQ); have HSD := Lib.hid (HSD.out.below hbQ); have HXX := Lib.hid (HXX.out.below hbQ); have HBW := Lib.hid (below_thn HBW.out hbQ)) | (go_at_call_of 13 (Value.pointer (some ⟨gb, 0, none⟩)); (refine (selMatch_calls gb [y] _ HSB.out (check_mats (l := [y]) HC.out) _ x HXX.out (fun z hz => hlb (by first | trivial | rfl) z hz)).mono ?_); rintro e wQ ⟨rfl, hbQ⟩; rw [HVB.out]; have HSA := Lib.hid (HSA.out.below hbQ); have HSB := Lib.hid (HSB.out.below hbQ); have HSC := Lib.hid (HSC.out.below hbQ); have HSD := Lib.hid (HSD.out.below hbQ); have HXX := Lib.hid (HXX.out.below hbQ); have HBW := Lib.hid (below_thn HBW.out hbQ)) | (go_at_call_of 13 (Value.pointer (some ⟨gc, 0, none⟩)); (refine (selMatch_calls gc [] _ HSC.out (check_mats (l := []) rfl) _ x HXX.out (fun z hz => hlb (by first | trivial | rfl) z hz)).mono ?_); rintro e wQ ⟨rfl, hbQ⟩; rw [HVD.out]; have HSA := Lib.hid (HSA.out.below hbQ); have HSB := Lib.hid (HSB.out.below hbQ); have HSC := Lib.hid (HSC.out.below hbQ); have HSD := Lib.hid (HSD.out.below hbQ); have HXX := Lib.hid (HXX.out.below hbQ); have HBW := Lib.hid (below_thn HBW.out hbQ)) | (go_at_call_of 13 (Value.pointer (some ⟨gd, 0, none⟩)); (refine (selMatch_calls gd [] _ HSD.out (check_mats (l := []) rfl) _ x HXX.out (fun z hz => hlb (by first | trivial | rfl) z hz)).mono ?_); rintro e wQ ⟨rfl, hbQ⟩; rw [HVD.out]; have HSA := Lib.hid (HSA.out.below hbQ); have HSB := Lib.hid (HSB.out.below hbQ); have HSC := Lib.hid (HSC.out.below hbQ); have HSD := Lib.hid (HSD.out.below hbQ); have HXX := Lib.hid (HXX.out.below hbQ); have HBW := Lib.hid (below_thn HBW.out hbQ)))
          all_goals go_ret
          all_goals exact ⟨rfl, by first | exact HBW.out | exact below_thn (below_thn (below_thn hb2 hbL) hbK) hbW | exact below_thn (below_thn hb2 hbL) hbW⟩
        · obtain ⟨C, hC⟩ : ∃ C, checkErr ([y].map toMat) = C := ⟨_, rfl⟩
          have HC := Lib.hid hC
          have hcz : ((C : Int) == 0) = false := by simp; intro h; exact hc (by rw [hC]; exact h)
          have hcn : ((C : Int) != 0) = true := by simp; intro h; exact hc (by rw [hC]; exact h)
          clear hc hC
          go_wp2_with (first | (go_at_call 8; (fail_if_success (have := hbL)); ((refine (light_calls _ _ [y] x _ HALL.out (HX.out.below hb2)).mono ?_); rintro e w3 ⟨lb, rfl, hlb, hbL⟩; cases lb)) | (go_at_call 9; (fail_if_success (have := hbK)); ((refine (check_calls _ [y] _ (HALL.out.below hbL)).mono ?_); rintro e w4 ⟨rfl, hbK⟩; rw [HC.out]; have HB4 := Lib.hid (below_thn (below_thn hb2 hbL) hbK))) | (go_at_call 10; (fail_if_success (have := hbW)); ((refine (awake12_calls _ (by first | exact ((ho.below hb2).below hbL).below hbK | exact (ho.below hb2).below hbL)).mono ?_); rintro e w9 ⟨rfl, hbW⟩)))
          all_goals go_ret
          all_goals exact ⟨rfl, by first | exact HBW.out | exact below_thn (below_thn (below_thn hb2 hbL) hbK) hbW | exact below_thn (below_thn hb2 hbL) hbW⟩
    · go_enter Tryd.func4, Tryd.ntmps4
      go_upto_region 2 with fail
      refine wp_join (F := fun a a' w' => ∃ v16 v18 v20 g2 cap2, a' = ((((((a.put (some 16) v16).put (some 17) (.slice (some A1) 0 c)).put (some 18) v18).put (some 19) (.agg #[.string y.name, .int .i64 y.op, .string y.value])).put (some 20) v20).put (some 21) (.slice (some ⟨g2, 0, none⟩) 1 cap2)).put (some 7) (.slice (some ⟨g2, 0, none⟩) 1 cap2) ∧ MS w' (.slice (some ⟨g2, 0, none⟩) 1 cap2) [y] ∧ Below w.heap.size w w') ?_ ?_
      · refine wp_region_G (S := fun u => Below w.heap.size w u ∧ u.heap[w.heap.size]? = some (.cells #[.string y.name, .int .i64 y.op, .string y.value] 28 (0, 0))) (T := fun u => Below w.heap.size w u ∧ u.heap[w.heap.size]? = some (.cells #[.string y.name, .int .i64 y.op, .string y.value] 28 (0, 0))) (late := fun _ => true) (by kernel_rfl) ?_
        have HS0 := Lib.hid (show (fun u : World => Below w.heap.size w u ∧ u.heap[w.heap.size]? = some (.cells #[.string y.name, .int .i64 y.op, .string y.value] 28 (0, 0))) (w.alloc (.cells #[.string y.name, .int .i64 y.op, .string y.value] 28)).drew from ⟨((Chg.of_below (M := fun _ => False) ((Below.refl _ _).alloc (Nat.le_refl _) _)).drew).below (fun k _ h => h), blk_new _ _⟩)
        refine anyG_takeS (i := 1) (d := some 17) (v := .slice (some A1) 0 c) rfl rfl (by kernel_rfl) (by kernel_rfl) (by kernel_rfl) rfl (fun _ _ _ h => h) HS0.out (.inl ⟨rfl, fun _ _ => rfl⟩) ?_
        simp only [Act.put, List.setIfInBounds_toArray, List.set_cons_zero, List.set_cons_succ]
        refine anyG_takeS (i := 3) (d := some 19) (v := .agg #[.string y.name, .int .i64 y.op, .string y.value]) rfl rfl (by kernel_rfl) (by kernel_rfl) (by kernel_rfl) rfl (fun _ _ _ h => h) HS0.out (yieldsIf_load_mid rfl 28 (.tmp 4) rfl w.heap.size 0 rfl [.string y.name, .int .i64 y.op, .string y.value] _ (fun u hu => blk_range hu.2) Tryd.underlying28 rfl (by kernel_rfl)) ?_
        simp only [Act.put, List.setIfInBounds_toArray, List.set_cons_zero, List.set_cons_succ]
        refine anyG_all (rs := [0, 4]) (by kernel_rfl) (by simp) ?_
        intro j hj
        simp only [List.mem_cons, List.not_mem_nil, or_false] at hj
        rcases hj with rfl | rfl
        · refine anyG_op (late := fun _ => true) (i := 0) (o := { dst := some 16, op := .buildSlice 22 0 #[], type := 22, pos := "law.go:119", after := #[], guard := none }) (by rfl) (by rfl) (fun K' hK => ?_)
          go_simp
          refine hK.out _ _ ⟨(by first | exact HS0.out.1.alloc (by first | (simp; done) | (simp; omega)) _ | exact (HS0.out.1.alloc (by first | (simp; done) | (simp; omega)) _).alloc (by first | (simp; done) | (simp; omega)) _), (by first | exact blk_alloc HS0.out.2 _ | exact blk_alloc (blk_alloc HS0.out.2 _) _)⟩ (fun e => absurd e (by decide)) ?_
          clear hK K'
          refine anyG_all (rs := [2, 4]) (by kernel_rfl) (by simp) ?_
          intro j hj
          simp only [List.mem_cons, List.not_mem_nil, or_false] at hj
          rcases hj with rfl | rfl
          · refine anyG_op (late := fun _ => true) (i := 2) (o := { dst := some 18, op := .call { callee := .builtin .append, args := #[.tmp 16, .tmp 17], argTypes := #[22, 22] }, type := 22, pos := "law.go:119", after := #[{ on := 0, ground := .data }, { on := 1, ground := .data }], guard := none }) (by rfl) (by rfl) (fun K' hK => ?_)
            go_simp
            refine hK.out _ _ ⟨(by first | exact HS0.out.1.alloc (by first | (simp; done) | (simp; omega)) _ | exact (HS0.out.1.alloc (by first | (simp; done) | (simp; omega)) _).alloc (by first | (simp; done) | (simp; omega)) _), (by first | exact blk_alloc HS0.out.2 _ | exact blk_alloc (blk_alloc HS0.out.2 _) _)⟩ (fun e => absurd e (by decide)) ?_
            clear hK K'
            refine anyG_all (rs := [4]) (by kernel_rfl) (by simp) ?_
            intro j hj
            simp only [List.mem_cons, List.not_mem_nil, or_false] at hj
            subst hj
            refine anyG_op (late := fun _ => true) (i := 4) (o := { dst := some 20, op := .buildSlice 22 1 #[(0, .tmp 19)], type := 22, pos := "law.go:119", after := #[{ on := 3, ground := .data }], guard := none }) (by rfl) (by rfl) (fun K' hK => ?_)
            go_simp
            refine hK.out _ _ ⟨(by first | exact HS0.out.1.alloc (by first | (simp; done) | (simp; omega)) _ | exact (HS0.out.1.alloc (by first | (simp; done) | (simp; omega)) _).alloc (by first | (simp; done) | (simp; omega)) _), (by first | exact blk_alloc HS0.out.2 _ | exact blk_alloc (blk_alloc HS0.out.2 _) _)⟩ (fun e => absurd e (by decide)) ?_
            clear hK K'
            refine anyG_all (rs := [5]) (by kernel_rfl) (by simp) ?_
            intro j hj
            simp only [List.mem_cons, List.not_mem_nil, or_false] at hj
            subst hj
            refine anyG_op (late := fun _ => true) (i := 5) (o := { dst := some 21, op := .call { callee := .builtin .append, args := #[.tmp 18, .tmp 20], argTypes := #[22, 22] }, type := 22, pos := "law.go:119", after := #[{ on := 2, ground := .data }, { on := 4, ground := .data }, { on := 2, ground := .chain }], guard := none }) (by rfl) (by rfl) (fun K' hK => ?_)
            refine wp_append_lies _ (.tmp 18) (.tmp 20) 22 (by rfl) (w.heap.size + 1) 28 i0 (.agg #[.string ⟨#[]⟩, .int .i64 0, .string ⟨#[]⟩]) 3 40 Tryd.underlying22 hinf hz0 hz1 hz2 rfl (by decide) (.slice (some ⟨_, 0, none⟩) 0 0) 0 [] (by rfl) (by exact ⟨rfl, .inr ⟨_, 0, #[], rfl, (by first | exact Nat.le_refl _ | (simp; done) | (simp; omega) | omega), (by first | exact blk_new _ _ | exact blk_alloc (blk_new _ _) _ | exact blk_new' _ _ _ (by simp) | exact blk_alloc (blk_new' _ _ _ (by simp)) _), by simp, by simp, by simp, by simp⟩⟩) ⟨_, 0, none⟩ 1 1 [.string y.name, .int .i64 y.op, .string y.value] (by rfl) rfl (World.news_of_block (by first | exact blk_new _ _ | exact blk_alloc (blk_new _ _) _ | exact blk_new' _ _ _ (by simp) | exact blk_alloc (blk_new' _ _ _ (by simp)) _)) (fun u hu => by simp at hu; rcases hu with rfl | rfl | rfl <;> rfl) (by decide) (by unfold maxLen; omega) (by omega) (by simp; first | done | omega) _ rfl (fun g2 cap2 w5 hown5 hgr5 hor5 hlt5 => ?_)
            simp only [Nat.zero_add, List.nil_append] at hown5
            have HS5 : Hid (Below w.heap.size w w5 ∧ w5.heap[w.heap.size]? = some (.cells #[.string y.name, .int .i64 y.op, .string y.value] 28 (0, 0))) := Lib.hid ⟨Chg.below ((Chg.of_below (M := fun k => w.heap.size ≤ k) (by first | exact HS0.out.1.alloc (by first | (simp; done) | (simp; omega)) _ | exact (HS0.out.1.alloc (by first | (simp; done) | (simp; omega)) _).alloc (by first | (simp; done) | (simp; omega)) _)).grown hgr5 (fun k hk => .inl (by simp [Value.ownBlock] at hk; omega))) (fun k hk h => by omega), blk_grown (by first | exact blk_alloc HS0.out.2 _ | exact blk_alloc (blk_alloc HS0.out.2 _) _) hgr5 (by simp [Value.ownBlock]; first | done | omega)⟩
            refine hK.out _ _ HS5.out (fun e => absurd e (by decide)) ?_
            clear hK K'
            simp only [Nat.zero_add, Act.put, List.setIfInBounds_toArray, List.set_cons_zero, List.set_cons_succ]
            refine anyG_takeS (i := 6) (d := some 7) (v := .slice (some ⟨g2, 0, none⟩) 1 cap2) rfl rfl (by kernel_rfl) (by kernel_rfl) (by kernel_rfl) rfl (fun _ _ _ h => h) HS5.out (.inl ⟨rfl, fun _ _ => rfl⟩) ?_
            simp only [Act.put, List.setIfInBounds_toArray, List.set_cons_zero, List.set_cons_succ]
            refine anyG_end (by kernel_rfl) (NoPanic.normal ⟨rfl, _, _, _, g2, cap2, rfl, ?_, HS5.out.1⟩)
            exact MS.of_row (l := [y]) (w := w5) (v := .slice (some ⟨g2, 0, none⟩) 1 cap2) hown5 (by simp)
          · refine anyG_op (late := fun _ => true) (i := 4) (o := { dst := some 20, op := .buildSlice 22 1 #[(0, .tmp 19)], type := 22, pos := "law.go:119", after := #[{ on := 3, ground := .data }], guard := none }) (by rfl) (by rfl) (fun K' hK => ?_)
            go_simp
            refine hK.out _ _ ⟨(by first | exact HS0.out.1.alloc (by first | (simp; done) | (simp; omega)) _ | exact (HS0.out.1.alloc (by first | (simp; done) | (simp; omega)) _).alloc (by first | (simp; done) | (simp; omega)) _), (by first | exact blk_alloc HS0.out.2 _ | exact blk_alloc (blk_alloc HS0.out.2 _) _)⟩ (fun e => absurd e (by decide)) ?_
            clear hK K'
            refine anyG_all (rs := [2]) (by kernel_rfl) (by simp) ?_
            intro j hj
            simp only [List.mem_cons, List.not_mem_nil, or_false] at hj
            subst hj
            refine anyG_op (late := fun _ => true) (i := 2) (o := { dst := some 18, op := .call { callee := .builtin .append, args := #[.tmp 16, .tmp 17], argTypes := #[22, 22] }, type := 22, pos := "law.go:119", after := #[{ on := 0, ground := .data }, { on := 1, ground := .data }], guard := none }) (by rfl) (by rfl) (fun K' hK => ?_)
            go_simp
            refine hK.out _ _ ⟨(by first | exact HS0.out.1.alloc (by first | (simp; done) | (simp; omega)) _ | exact (HS0.out.1.alloc (by first | (simp; done) | (simp; omega)) _).alloc (by first | (simp; done) | (simp; omega)) _), (by first | exact blk_alloc HS0.out.2 _ | exact blk_alloc (blk_alloc HS0.out.2 _) _)⟩ (fun e => absurd e (by decide)) ?_
            clear hK K'
            refine anyG_all (rs := [5]) (by kernel_rfl) (by simp) ?_
            intro j hj
            simp only [List.mem_cons, List.not_mem_nil, or_false] at hj
            subst hj
            refine anyG_op (late := fun _ => true) (i := 5) (o := { dst := some 21, op := .call { callee := .builtin .append, args := #[.tmp 18, .tmp 20], argTypes := #[22, 22] }, type := 22, pos := "law.go:119", after := #[{ on := 2, ground := .data }, { on := 4, ground := .data }, { on := 2, ground := .chain }], guard := none }) (by rfl) (by rfl) (fun K' hK => ?_)
            refine wp_append_lies _ (.tmp 18) (.tmp 20) 22 (by rfl) (w.heap.size + 1) 28 i0 (.agg #[.string ⟨#[]⟩, .int .i64 0, .string ⟨#[]⟩]) 3 40 Tryd.underlying22 hinf hz0 hz1 hz2 rfl (by decide) (.slice (some ⟨_, 0, none⟩) 0 0) 0 [] (by rfl) (by exact ⟨rfl, .inr ⟨_, 0, #[], rfl, (by first | exact Nat.le_refl _ | (simp; done) | (simp; omega) | omega), (by first | exact blk_new _ _ | exact blk_alloc (blk_new _ _) _ | exact blk_new' _ _ _ (by simp) | exact blk_alloc (blk_new' _ _ _ (by simp)) _), by simp, by simp, by simp, by simp⟩⟩) ⟨_, 0, none⟩ 1 1 [.string y.name, .int .i64 y.op, .string y.value] (by rfl) rfl (World.news_of_block (by first | exact blk_new _ _ | exact blk_alloc (blk_new _ _) _ | exact blk_new' _ _ _ (by simp) | exact blk_alloc (blk_new' _ _ _ (by simp)) _)) (fun u hu => by simp at hu; rcases hu with rfl | rfl | rfl <;> rfl) (by decide) (by unfold maxLen; omega) (by omega) (by simp; first | done | omega) _ rfl (fun g2 cap2 w5 hown5 hgr5 hor5 hlt5 => ?_)
            simp only [Nat.zero_add, List.nil_append] at hown5
            have HS5 : Hid (Below w.heap.size w w5 ∧ w5.heap[w.heap.size]? = some (.cells #[.string y.name, .int .i64 y.op, .string y.value] 28 (0, 0))) := Lib.hid ⟨Chg.below ((Chg.of_below (M := fun k => w.heap.size ≤ k) (by first | exact HS0.out.1.alloc (by first | (simp; done) | (simp; omega)) _ | exact (HS0.out.1.alloc (by first | (simp; done) | (simp; omega)) _).alloc (by first | (simp; done) | (simp; omega)) _)).grown hgr5 (fun k hk => .inl (by simp [Value.ownBlock] at hk; omega))) (fun k hk h => by omega), blk_grown (by first | exact blk_alloc HS0.out.2 _ | exact blk_alloc (blk_alloc HS0.out.2 _) _) hgr5 (by simp [Value.ownBlock]; first | done | omega)⟩
            refine hK.out _ _ HS5.out (fun e => absurd e (by decide)) ?_
            clear hK K'
            simp only [Nat.zero_add, Act.put, List.setIfInBounds_toArray, List.set_cons_zero, List.set_cons_succ]
            refine anyG_takeS (i := 6) (d := some 7) (v := .slice (some ⟨g2, 0, none⟩) 1 cap2) rfl rfl (by kernel_rfl) (by kernel_rfl) (by kernel_rfl) rfl (fun _ _ _ h => h) HS5.out (.inl ⟨rfl, fun _ _ => rfl⟩) ?_
            simp only [Act.put, List.setIfInBounds_toArray, List.set_cons_zero, List.set_cons_succ]
            refine anyG_end (by kernel_rfl) (NoPanic.normal ⟨rfl, _, _, _, g2, cap2, rfl, ?_, HS5.out.1⟩)
            exact MS.of_row (l := [y]) (w := w5) (v := .slice (some ⟨g2, 0, none⟩) 1 cap2) hown5 (by simp)
        · refine anyG_op (late := fun _ => true) (i := 4) (o := { dst := some 20, op := .buildSlice 22 1 #[(0, .tmp 19)], type := 22, pos := "law.go:119", after := #[{ on := 3, ground := .data }], guard := none }) (by rfl) (by rfl) (fun K' hK => ?_)
          go_simp
          refine hK.out _ _ ⟨(by first | exact HS0.out.1.alloc (by first | (simp; done) | (simp; omega)) _ | exact (HS0.out.1.alloc (by first | (simp; done) | (simp; omega)) _).alloc (by first | (simp; done) | (simp; omega)) _), (by first | exact blk_alloc HS0.out.2 _ | exact blk_alloc (blk_alloc HS0.out.2 _) _)⟩ (fun e => absurd e (by decide)) ?_
          clear hK K'
          refine anyG_all (rs := [0]) (by kernel_rfl) (by simp) ?_
          intro j hj
          simp only [List.mem_cons, List.not_mem_nil, or_false] at hj
          subst hj
          refine anyG_op (late := fun _ => true) (i := 0) (o := { dst := some 16, op := .buildSlice 22 0 #[], type := 22, pos := "law.go:119", after := #[], guard := none }) (by rfl) (by rfl) (fun K' hK => ?_)
          go_simp
          refine hK.out _ _ ⟨(by first | exact HS0.out.1.alloc (by first | (simp; done) | (simp; omega)) _ | exact (HS0.out.1.alloc (by first | (simp; done) | (simp; omega)) _).alloc (by first | (simp; done) | (simp; omega)) _), (by first | exact blk_alloc HS0.out.2 _ | exact blk_alloc (blk_alloc HS0.out.2 _) _)⟩ (fun e => absurd e (by decide)) ?_
          clear hK K'
          refine anyG_all (rs := [2]) (by kernel_rfl) (by simp) ?_
          intro j hj
          simp only [List.mem_cons, List.not_mem_nil, or_false] at hj
          subst hj
          refine anyG_op (late := fun _ => true) (i := 2) (o := { dst := some 18, op := .call { callee := .builtin .append, args := #[.tmp 16, .tmp 17], argTypes := #[22, 22] }, type := 22, pos := "law.go:119", after := #[{ on := 0, ground := .data }, { on := 1, ground := .data }], guard := none }) (by rfl) (by rfl) (fun K' hK => ?_)
          go_simp
          refine hK.out _ _ ⟨(by first | exact HS0.out.1.alloc (by first | (simp; done) | (simp; omega)) _ | exact (HS0.out.1.alloc (by first | (simp; done) | (simp; omega)) _).alloc (by first | (simp; done) | (simp; omega)) _), (by first | exact blk_alloc HS0.out.2 _ | exact blk_alloc (blk_alloc HS0.out.2 _) _)⟩ (fun e => absurd e (by decide)) ?_
          clear hK K'
          refine anyG_all (rs := [5]) (by kernel_rfl) (by simp) ?_
          intro j hj
          simp only [List.mem_cons, List.not_mem_nil, or_false] at hj
          subst hj
          refine anyG_op (late := fun _ => true) (i := 5) (o := { dst := some 21, op := .call { callee := .builtin .append, args := #[.tmp 18, .tmp 20], argTypes := #[22, 22] }, type := 22, pos := "law.go:119", after := #[{ on := 2, ground := .data }, { on := 4, ground := .data }, { on := 2, ground := .chain }], guard := none }) (by rfl) (by rfl) (fun K' hK => ?_)
          refine wp_append_lies _ (.tmp 18) (.tmp 20) 22 (by rfl) (w.heap.size + 1) 28 i0 (.agg #[.string ⟨#[]⟩, .int .i64 0, .string ⟨#[]⟩]) 3 40 Tryd.underlying22 hinf hz0 hz1 hz2 rfl (by decide) (.slice (some ⟨_, 0, none⟩) 0 0) 0 [] (by rfl) (by exact ⟨rfl, .inr ⟨_, 0, #[], rfl, (by first | exact Nat.le_refl _ | (simp; done) | (simp; omega) | omega), (by first | exact blk_new _ _ | exact blk_alloc (blk_new _ _) _ | exact blk_new' _ _ _ (by simp) | exact blk_alloc (blk_new' _ _ _ (by simp)) _), by simp, by simp, by simp, by simp⟩⟩) ⟨_, 0, none⟩ 1 1 [.string y.name, .int .i64 y.op, .string y.value] (by rfl) rfl (World.news_of_block (by first | exact blk_new _ _ | exact blk_alloc (blk_new _ _) _ | exact blk_new' _ _ _ (by simp) | exact blk_alloc (blk_new' _ _ _ (by simp)) _)) (fun u hu => by simp at hu; rcases hu with rfl | rfl | rfl <;> rfl) (by decide) (by unfold maxLen; omega) (by omega) (by simp; first | done | omega) _ rfl (fun g2 cap2 w5 hown5 hgr5 hor5 hlt5 => ?_)
          simp only [Nat.zero_add, List.nil_append] at hown5
          have HS5 : Hid (Below w.heap.size w w5 ∧ w5.heap[w.heap.size]? = some (.cells #[.string y.name, .int .i64 y.op, .string y.value] 28 (0, 0))) := Lib.hid ⟨Chg.below ((Chg.of_below (M := fun k => w.heap.size ≤ k) (by first | exact HS0.out.1.alloc (by first | (simp; done) | (simp; omega)) _ | exact (HS0.out.1.alloc (by first | (simp; done) | (simp; omega)) _).alloc (by first | (simp; done) | (simp; omega)) _)).grown hgr5 (fun k hk => .inl (by simp [Value.ownBlock] at hk; omega))) (fun k hk h => by omega), blk_grown (by first | exact blk_alloc HS0.out.2 _ | exact blk_alloc (blk_alloc HS0.out.2 _) _) hgr5 (by simp [Value.ownBlock]; first | done | omega)⟩
          refine hK.out _ _ HS5.out (fun e => absurd e (by decide)) ?_
          clear hK K'
          simp only [Nat.zero_add, Act.put, List.setIfInBounds_toArray, List.set_cons_zero, List.set_cons_succ]
          refine anyG_takeS (i := 6) (d := some 7) (v := .slice (some ⟨g2, 0, none⟩) 1 cap2) rfl rfl (by kernel_rfl) (by kernel_rfl) (by kernel_rfl) rfl (fun _ _ _ h => h) HS5.out (.inl ⟨rfl, fun _ _ => rfl⟩) ?_
          simp only [Act.put, List.setIfInBounds_toArray, List.set_cons_zero, List.set_cons_succ]
          refine anyG_end (by kernel_rfl) (NoPanic.normal ⟨rfl, _, _, _, g2, cap2, rfl, ?_, HS5.out.1⟩)
          exact MS.of_row (l := [y]) (w := w5) (v := .slice (some ⟨g2, 0, none⟩) 1 cap2) hown5 (by simp)
      · rintro a' w2 ⟨v16, v18, v20, g2, cap2, rfl, hall, hb2⟩
        simp only [Act.put, List.setIfInBounds_toArray, List.set_cons_zero, List.set_cons_succ]
        have HALL := Lib.hid hall
        clear hall
        have HVD : Hid (holdsAll (([] : List SM).map toMat) (x.map toLbl) = true) := Lib.hid rfl
        by_cases hc : checkErr ([y].map toMat) = 0
        · have HC := Lib.hid hc
          obtain ⟨W1, hW1⟩ : ∃ V, holdsAll ([y].map toMat) (x.map toLbl) = V := ⟨_, rfl⟩
          have HVB := Lib.hid hW1
          clear hc hW1
          cases W1
          all_goals go_wp2_with (first | (go_at_call 8; (fail_if_success (have := hbL)); ((refine (light_calls _ _ [y] x _ HALL.out (HX.out.below hb2)).mono ?_); rintro e w3 ⟨lb, rfl, hlb, hbL⟩; cases lb)) | (go_at_call 9; (fail_if_success (have := hbK)); ((refine (check_calls _ [y] _ (HALL.out.below hbL)).mono ?_); rintro e w4 ⟨rfl, hbK⟩; rw [HC.out]; have HB4 := Lib.hid (below_thn (below_thn hb2 hbL) hbK))) | (go_at_call 10; (fail_if_success (have := hbW)); ((refine (awake12_calls _ (by first | exact ((ho.below hb2).below hbL).below hbK | exact (ho.below hb2).below hbL)).mono ?_); rintro e w9 ⟨rfl, hbW⟩)) | (go_at_call 12; (fail_if_success (have := hbT1)); ((refine (to_calls _ [] _ (HL0.out.below HB4.out) (by simp)).mono ?_); rintro e w5 ⟨v1, rfl, hv1, hbT1⟩; have HV1 := Lib.hid hv1; have HB5 := Lib.hid (below_thn HB4.out hbT1); clear hv1)) | (go_at_call 11; (fail_if_success (have := hbN1)); ((refine (new_ok _ [] _ HV1.out rfl).mono ?_); rintro e w6 ⟨⟨ga, rfl, hsa⟩, hbN1⟩; have HSA := Lib.hid hsa; have HB6 := Lib.hid (below_thn HB5.out hbN1); clear hsa)) | (go_at_call 12; (fail_if_success (have := hbT2)); ((refine (to_calls _ [y] _ ((((HALL.out.below hbL).below hbK).below hbT1).below hbN1) (by simp)).mono ?_); rintro e w7 ⟨v2, rfl, hv2, hbT2⟩; have HV2 := Lib.hid hv2; have HB7 := Lib.hid (below_thn HB6.out hbT2); clear hv2)) | (go_at_call 11; (fail_if_success (have := hbN2)); ((refine (new_ok _ [y] _ HV2.out HC.out).mono ?_); rintro e w8 ⟨⟨gb, rfl, hsb⟩, hbN2⟩; have HSB := Lib.hid hsb; have HB8 := Lib.hid (below_thn HB7.out hbN2); clear hsb)) | (go_at_call 12; (fail_if_success (have := hbT3)); ((refine (to_calls _ [] _ ⟨_, _, rfl, by simp, fun i x hx => by simp at hx⟩ (by simp)).mono ?_); rintro e w11 ⟨v3, rfl, hv3, hbT3⟩; have HV3 := Lib.hid hv3; have HB11 := Lib.hid (below_thn (below_thn HB8.out (Below.alloc (Below.refl _ _) (Nat.le_refl _) _)) hbT3); clear hv3)) | (go_at_call 11; (fail_if_success (have := hbN3)); ((refine (new_ok _ [] _ HV3.out rfl).mono ?_); rintro e w12 ⟨⟨gc, rfl, hsc⟩, hbN3⟩; have HSC := Lib.hid hsc; have HB12 := Lib.hid (below_thn HB11.out hbN3); clear hsc)) | (go_at_call 11; (fail_if_success (have := hbN4)); ((refine (new_ok _ [] _ ⟨none, 0, rfl, by simp, fun i x hx => by simp at hx⟩ rfl).mono ?_); rintro e w13 ⟨⟨gd, rfl, hsd⟩, hbN4⟩; have HSD := Lib.hid hsd; have HBW := Lib.hid (below_thn HB12.out hbN4); have HSC := Lib.hid (HSC.out.below hbN4); have HSB := Lib.hid ((((HSB.out.below (Below.alloc (Below.refl _ _) (Nat.le_refl _) _)).below hbT3).below hbN3).below hbN4); have HSA := Lib.hid ((((((HSA.out.below hbT2).below hbN2).below (Below.alloc (Below.refl _ _) (Nat.le_refl _) _)).below hbT3).below hbN3).below hbN4); have HXX := Lib.hid (HX.out.below HBW.out); clear hsd)) | (go_at_call 10; (refine (awake12_calls _ (ho.below HBW.out)).mono ?_); rintro e wQ ⟨rfl, hbQ⟩; have HSA := Lib.hid (HSA.out.below hbQ); have HSB := Lib.hid (HSB.out.below hbQ); have HSC := Lib.hid (HSC.out.below hbQ); have HSD := Lib.hid (HSD.out.below hbQ); have HXX := Lib.hid (HXX.out.below hbQ); have HBW := Lib.hid (below_thn HBW.out hbQ)) | (go_at_call_of 13 (Value.pointer (some ⟨ga, 0, none⟩)); (refine (selMatch_calls ga [] _ HSA.out (check_mats (l := []) rfl) _ x HXX.out (fun z hz => hlb (by first | trivial | rfl) z hz)).mono ?_); rintro e wQ ⟨rfl, hbQ⟩; rw [HVD.out]; have HSA := Lib.hid (HSA.out.below hbQ); have HSB := Lib.hid (HSB.out.below hbQ); have HSC := Lib.hid (HSC.out.below hbQ); have HSD := Lib.hid (HSD.out.below hbQ); have HXX := Lib.hid (HXX.out.below hbQ); have HBW := Lib.hid (below_thn HBW.out hbQ)) | (go_at_call_of 13 (Value.pointer (some ⟨gb, 0, none⟩)); (refine (selMatch_calls gb [y] _ HSB.out (check_mats (l := [y]) HC.out) _ x HXX.out (fun z hz => hlb (by first | trivial | rfl) z hz)).mono ?_); rintro e wQ ⟨rfl, hbQ⟩; rw [HVB.out]; have HSA := Lib.hid (HSA.out.below hbQ); have HSB := Lib.hid (HSB.out.below hbQ); have HSC := Lib.hid (HSC.out.below hbQ); have HSD := Lib.hid (HSD.out.below hbQ); have HXX := Lib.hid (HXX.out.below hbQ); have HBW := Lib.hid (below_thn HBW.out hbQ)) | (go_at_call_of 13 (Value.pointer (some ⟨gc, 0, none⟩)); (refine (selMatch_calls gc [] _ HSC.out (check_mats (l := []) rfl) _ x HXX.out (fun z hz => hlb (by first | trivial | rfl) z hz)).mono ?_); rintro e wQ ⟨rfl, hbQ⟩; rw [HVD.out]; have HSA := Lib.hid (HSA.out.below hbQ); have HSB := Lib.hid (HSB.out.below hbQ); have HSC := Lib.hid (HSC.out.below hbQ); have HSD := Lib.hid (HSD.out.below hbQ); have HXX := Lib.hid (HXX.out.below hbQ); have HBW := Lib.hid (below_thn HBW.out hbQ)) | (go_at_call_of 13 (Value.pointer (some ⟨gd, 0, none⟩)); (refine (selMatch_calls gd [] _ HSD.out (check_mats (l := []) rfl) _ x HXX.out (fun z hz => hlb (by first | trivial | rfl) z hz)).mono ?_); rintro e wQ ⟨rfl, hbQ⟩; rw [HVD.out]; have HSA := Lib.hid (HSA.out.below hbQ); have HSB := Lib.hid (HSB.out.below hbQ); have HSC := Lib.hid (HSC.out.below hbQ); have HSD := Lib.hid (HSD.out.below hbQ); have HXX := Lib.hid (HXX.out.below hbQ); have HBW := Lib.hid (below_thn HBW.out hbQ)))
          all_goals go_ret
          all_goals exact ⟨rfl, by first | exact HBW.out | exact below_thn (below_thn (below_thn hb2 hbL) hbK) hbW | exact below_thn (below_thn hb2 hbL) hbW⟩
        · obtain ⟨C, hC⟩ : ∃ C, checkErr ([y].map toMat) = C := ⟨_, rfl⟩
          have HC := Lib.hid hC
          have hcz : ((C : Int) == 0) = false := by simp; intro h; exact hc (by rw [hC]; exact h)
          have hcn : ((C : Int) != 0) = true := by simp; intro h; exact hc (by rw [hC]; exact h)
          clear hc hC
          go_wp2_with (first | (go_at_call 8; (fail_if_success (have := hbL)); ((refine (light_calls _ _ [y] x _ HALL.out (HX.out.below hb2)).mono ?_); rintro e w3 ⟨lb, rfl, hlb, hbL⟩; cases lb)) | (go_at_call 9; (fail_if_success (have := hbK)); ((refine (check_calls _ [y] _ (HALL.out.below hbL)).mono ?_); rintro e w4 ⟨rfl, hbK⟩; rw [HC.out]; have HB4 := Lib.hid (below_thn (below_thn hb2 hbL) hbK))) | (go_at_call 10; (fail_if_success (have := hbW)); ((refine (awake12_calls _ (by first | exact ((ho.below hb2).below hbL).below hbK | exact (ho.below hb2).below hbL)).mono ?_); rintro e w9 ⟨rfl, hbW⟩)))
          all_goals go_ret
          all_goals exact ⟨rfl, by first | exact HBW.out | exact below_thn (below_thn (below_thn hb2 hbL) hbK) hbW | exact below_thn (below_thn hb2 hbL) hbW⟩
  · obtain ⟨A1, rfl⟩ : ∃ a, A = some a := by
      obtain ⟨A', c', e, _, hm⟩ := HL.out
      injection e with e1 e2 e3
      obtain ⟨x, hx⟩ : ∃ x, l[0]? = some x := ⟨_, List.getElem?_eq_getElem (by omega)⟩
      obtain ⟨g, o, h1, _⟩ := hm 0 x hx
      exact ⟨_, e1.trans h1⟩
    have hpos : 0 < l.length := by omega
    clear hz
    go_enter Tryd.func4, Tryd.ntmps4
    go_upto_region 2 with fail
    refine wp_join (F := fun a a' w' => ∃ v16 v18 v20 g2 cap2, a' = ((((((a.put (some 16) v16).put (some 17) (.slice (some A1) l.length c)).put (some 18) v18).put (some 19) (.agg #[.string y.name, .int .i64 y.op, .string y.value])).put (some 20) v20).put (some 21) (.slice (some ⟨g2, 0, none⟩) (l.length + 1) cap2)).put (some 7) (.slice (some ⟨g2, 0, none⟩) (l.length + 1) cap2) ∧ MS w' (.slice (some ⟨g2, 0, none⟩) (l.length + 1) cap2) (l ++ [y]) ∧ Below w.heap.size w w') ?_ ?_
    · refine wp_region_G (S := fun u => Below w.heap.size w u ∧ u.heap[w.heap.size]? = some (.cells #[.string y.name, .int .i64 y.op, .string y.value] 28 (0, 0))) (T := fun u => Below w.heap.size w u ∧ u.heap[w.heap.size]? = some (.cells #[.string y.name, .int .i64 y.op, .string y.value] 28 (0, 0))) (late := fun _ => true) (by kernel_rfl) ?_
      have HS0 := Lib.hid (show (fun u : World => Below w.heap.size w u ∧ u.heap[w.heap.size]? = some (.cells #[.string y.name, .int .i64 y.op, .string y.value] 28 (0, 0))) (w.alloc (.cells #[.string y.name, .int .i64 y.op, .string y.value] 28)).drew from ⟨((Chg.of_below (M := fun _ => False) ((Below.refl _ _).alloc (Nat.le_refl _) _)).drew).below (fun k _ h => h), blk_new _ _⟩)
      refine anyG_takeS (i := 1) (d := some 17) (v := .slice (some A1) l.length c) rfl rfl (by kernel_rfl) (by kernel_rfl) (by kernel_rfl) rfl (fun _ _ _ h => h) HS0.out (.inl ⟨rfl, fun _ _ => rfl⟩) ?_
      simp only [Act.put, List.setIfInBounds_toArray, List.set_cons_zero, List.set_cons_succ]
      refine anyG_takeS (i := 3) (d := some 19) (v := .agg #[.string y.name, .int .i64 y.op, .string y.value]) rfl rfl (by kernel_rfl) (by kernel_rfl) (by kernel_rfl) rfl (fun _ _ _ h => h) HS0.out (yieldsIf_load_mid rfl 28 (.tmp 4) rfl w.heap.size 0 rfl [.string y.name, .int .i64 y.op, .string y.value] _ (fun u hu => blk_range hu.2) Tryd.underlying28 rfl (by kernel_rfl)) ?_
      simp only [Act.put, List.setIfInBounds_toArray, List.set_cons_zero, List.set_cons_succ]
      refine anyG_all (rs := [0, 4]) (by kernel_rfl) (by simp) ?_
      intro j hj
      simp only [List.mem_cons, List.not_mem_nil, or_false] at hj
      rcases hj with rfl | rfl
      · refine anyG_op (late := fun _ => true) (i := 0) (o := { dst := some 16, op := .buildSlice 22 0 #[], type := 22, pos := "law.go:119", after := #[], guard := none }) (by rfl) (by rfl) (fun K' hK => ?_)
        go_simp
        refine hK.out _ _ ⟨by first | exact HS0.out.1.alloc (by first | (simp; done) | (simp; omega)) _ | exact (HS0.out.1.alloc (by first | (simp; done) | (simp; omega)) _).alloc (by first | (simp; done) | (simp; omega)) _, by first | exact blk_alloc HS0.out.2 _ | exact blk_alloc (blk_alloc HS0.out.2 _) _⟩ (fun e => absurd e (by decide)) ?_
        clear hK K'
        refine anyG_all (rs := [2, 4]) (by kernel_rfl) (by simp) ?_
        intro j hj
        simp only [List.mem_cons, List.not_mem_nil, or_false] at hj
        rcases hj with rfl | rfl
        · refine anyG_op (late := fun _ => true) (i := 2) (o := { dst := some 18, op := .call { callee := .builtin .append, args := #[.tmp 16, .tmp 17], argTypes := #[22, 22] }, type := 22, pos := "law.go:119", after := #[{ on := 0, ground := .data }, { on := 1, ground := .data }], guard := none }) (by rfl) (by rfl) (fun K' hK => ?_)
          refine wp_append_lies _ (.tmp 16) (.tmp 17) 22 (by rfl) (w.heap.size + 1) 28 i0 (.agg #[.string ⟨#[]⟩, .int .i64 0, .string ⟨#[]⟩]) 3 40 Tryd.underlying22 hinf hz0 hz1 hz2 rfl (by decide) (.slice (some ⟨_, 0, none⟩) 0 0) 0 [] (by rfl) (by exact ⟨rfl, .inr ⟨_, 0, #[], rfl, (by first | exact Nat.le_refl _ | (simp; done) | (simp; omega) | omega), (by first | exact blk_new _ _ | exact blk_alloc (blk_new _ _) _ | exact blk_new' _ _ _ (by simp) | exact blk_alloc (blk_new' _ _ _ (by simp)) _), by simp, by simp, by simp, by simp⟩⟩) A1 l.length c (flatM l) (by rfl) (flatM_len l) (by exact (HL.out.below (by first | exact HS0.out.1.alloc (by first | (simp; done) | (simp; omega)) _ | exact (HS0.out.1.alloc (by first | (simp; done) | (simp; omega)) _).alloc (by first | (simp; done) | (simp; omega)) _)).cells) (flatM_one l) hpos (by unfold maxLen; omega) (by omega) (by first | (simp; done) | (simp; omega)) _ rfl (fun g1 cap w4 hown4 hgr4 hor4 hlt4 => ?_)
          simp only [Nat.zero_add, List.nil_append] at hown4
          have HS1 : Hid (Below w.heap.size w w4 ∧ w4.heap[w.heap.size]? = some (.cells #[.string y.name, .int .i64 y.op, .string y.value] 28 (0, 0))) := Lib.hid ⟨Chg.below ((Chg.of_below (M := fun k => w.heap.size ≤ k) (by first | exact HS0.out.1.alloc (by first | (simp; done) | (simp; omega)) _ | exact (HS0.out.1.alloc (by first | (simp; done) | (simp; omega)) _).alloc (by first | (simp; done) | (simp; omega)) _)).grown hgr4 (fun k hk => .inl (by simp [Value.ownBlock] at hk; omega))) (fun k hk h => by omega), blk_grown (by first | exact blk_alloc HS0.out.2 _ | exact blk_alloc (blk_alloc HS0.out.2 _) _) hgr4 (by simp [Value.ownBlock]; first | done | omega)⟩
          refine hK.out _ _ HS1.out (fun e => absurd e (by decide)) ?_
          clear hK K'
          simp only [Nat.zero_add, Act.put, List.setIfInBounds_toArray, List.set_cons_zero, List.set_cons_succ]
          refine anyG_all (rs := [4]) (by kernel_rfl) (by simp) ?_
          intro j hj
          simp only [List.mem_cons, List.not_mem_nil, or_false] at hj
          subst hj
          refine anyG_op (late := fun _ => true) (i := 4) (o := { dst := some 20, op := .buildSlice 22 1 #[(0, .tmp 19)], type := 22, pos := "law.go:119", after := #[{ on := 3, ground := .data }], guard := none }) (by rfl) (by rfl) (fun K' hK => ?_)
          go_simp
          refine hK.out _ _ ⟨by first | exact HS1.out.1 | exact HS1.out.1.alloc (by have := HS1.out.1.size; first | omega | (simp; done) | (simp; omega)) _, by first | exact HS1.out.2 | exact blk_alloc HS1.out.2 _⟩ (fun e => absurd e (by decide)) ?_
          clear hK K'
          refine anyG_all (rs := [5]) (by kernel_rfl) (by simp) ?_
          intro j hj
          simp only [List.mem_cons, List.not_mem_nil, or_false] at hj
          subst hj
          refine anyG_op (late := fun _ => true) (i := 5) (o := { dst := some 21, op := .call { callee := .builtin .append, args := #[.tmp 18, .tmp 20], argTypes := #[22, 22] }, type := 22, pos := "law.go:119", after := #[{ on := 2, ground := .data }, { on := 4, ground := .data }, { on := 2, ground := .chain }], guard := none }) (by rfl) (by rfl) (fun K' hK => ?_)
          refine wp_append_lies _ (.tmp 18) (.tmp 20) 22 (by rfl) (w.heap.size + 1) 28 i0 (.agg #[.string ⟨#[]⟩, .int .i64 0, .string ⟨#[]⟩]) 3 40 Tryd.underlying22 hinf hz0 hz1 hz2 rfl (by decide) (.slice (some ⟨g1, 0, none⟩) l.length cap) l.length (flatM l) (by rfl) (by first | exact hown4 | exact hown4.alloc _) ⟨_, 0, none⟩ 1 1 [.string y.name, .int .i64 y.op, .string y.value] (by rfl) rfl (World.news_of_block (by first | exact blk_new _ _ | (refine blk_grown ?_ hgr4 (by simp [Value.ownBlock]; first | done | omega); first | exact blk_new _ _ | exact blk_alloc (blk_new _ _) _ | exact blk_new' _ _ _ (by simp) | exact blk_alloc (blk_new' _ _ _ (by simp)) _))) (fun u hu => by simp at hu; rcases hu with rfl | rfl | rfl <;> rfl) (by decide) (by unfold maxLen; omega) (by omega) (by have := HS1.out.1.size; have := blk_lt HS1.out.2; first | omega | (simp; omega)) _ rfl (fun g2 cap2 w5 hown5 hgr5 hor5 hlt5 => ?_)
          have HS5 : Hid (Below w.heap.size w w5 ∧ w5.heap[w.heap.size]? = some (.cells #[.string y.name, .int .i64 y.op, .string y.value] 28 (0, 0))) := Lib.hid ⟨Chg.below ((Chg.of_below (M := fun k => w.heap.size ≤ k) (by first | exact HS1.out.1 | exact HS1.out.1.alloc (by have := HS1.out.1.size; first | omega | (simp; done) | (simp; omega)) _)).grown hgr5 (fun k hk => .inl (by have := (hown4.lt k hk).1; omega))) (fun k hk h => by omega), blk_grown (by first | exact HS1.out.2 | exact blk_alloc HS1.out.2 _) hgr5 (fun e => by have := (hown4.lt _ e.symm).1; omega)⟩
          refine hK.out _ _ HS5.out (fun e => absurd e (by decide)) ?_
          clear hK K'
          simp only [Act.put, List.setIfInBounds_toArray, List.set_cons_zero, List.set_cons_succ]
          refine anyG_takeS (i := 6) (d := some 7) (v := .slice (some ⟨g2, 0, none⟩) (l.length + 1) cap2) rfl rfl (by kernel_rfl) (by kernel_rfl) (by kernel_rfl) rfl (fun _ _ _ h => h) HS5.out (.inl ⟨rfl, fun _ _ => rfl⟩) ?_
          simp only [Act.put, List.setIfInBounds_toArray, List.set_cons_zero, List.set_cons_succ]
          refine anyG_end (by kernel_rfl) (NoPanic.normal ⟨rfl, _, _, _, g2, cap2, rfl, ?_, HS5.out.1⟩)
          have := MS.of_row (l := l ++ [y]) (w := w5) (v := .slice (some ⟨g2, 0, none⟩) (l.length + 1) cap2) (by rw [flatM_snoc, List.length_append]; exact hown5) (by first | (simp; done) | (simp; omega))
          exact this
        · refine anyG_op (late := fun _ => true) (i := 4) (o := { dst := some 20, op := .buildSlice 22 1 #[(0, .tmp 19)], type := 22, pos := "law.go:119", after := #[{ on := 3, ground := .data }], guard := none }) (by rfl) (by rfl) (fun K' hK => ?_)
          go_simp
          refine hK.out _ _ ⟨by first | exact HS0.out.1.alloc (by first | (simp; done) | (simp; omega)) _ | exact (HS0.out.1.alloc (by first | (simp; done) | (simp; omega)) _).alloc (by first | (simp; done) | (simp; omega)) _, by first | exact blk_alloc HS0.out.2 _ | exact blk_alloc (blk_alloc HS0.out.2 _) _⟩ (fun e => absurd e (by decide)) ?_
          clear hK K'
          refine anyG_all (rs := [2]) (by kernel_rfl) (by simp) ?_
          intro j hj
          simp only [List.mem_cons, List.not_mem_nil, or_false] at hj
          subst hj
          refine anyG_op (late := fun _ => true) (i := 2) (o := { dst := some 18, op := .call { callee := .builtin .append, args := #[.tmp 16, .tmp 17], argTypes := #[22, 22] }, type := 22, pos := "law.go:119", after := #[{ on := 0, ground := .data }, { on := 1, ground := .data }], guard := none }) (by rfl) (by rfl) (fun K' hK => ?_)
          refine wp_append_lies _ (.tmp 16) (.tmp 17) 22 (by rfl) (w.heap.size + 1) 28 i0 (.agg #[.string ⟨#[]⟩, .int .i64 0, .string ⟨#[]⟩]) 3 40 Tryd.underlying22 hinf hz0 hz1 hz2 rfl (by decide) (.slice (some ⟨_, 0, none⟩) 0 0) 0 [] (by rfl) (by exact ⟨rfl, .inr ⟨_, 0, #[], rfl, (by first | exact Nat.le_refl _ | (simp; done) | (simp; omega) | omega), (by first | exact blk_new _ _ | exact blk_alloc (blk_new _ _) _ | exact blk_new' _ _ _ (by simp) | exact blk_alloc (blk_new' _ _ _ (by simp)) _), by simp, by simp, by simp, by simp⟩⟩) A1 l.length c (flatM l) (by rfl) (flatM_len l) (by exact (HL.out.below (by first | exact HS0.out.1.alloc (by first | (simp; done) | (simp; omega)) _ | exact (HS0.out.1.alloc (by first | (simp; done) | (simp; omega)) _).alloc (by first | (simp; done) | (simp; omega)) _)).cells) (flatM_one l) hpos (by unfold maxLen; omega) (by omega) (by first | (simp; done) | (simp; omega)) _ rfl (fun g1 cap w4 hown4 hgr4 hor4 hlt4 => ?_)
          simp only [Nat.zero_add, List.nil_append] at hown4
          have HS1 : Hid (Below w.heap.size w w4 ∧ w4.heap[w.heap.size]? = some (.cells #[.string y.name, .int .i64 y.op, .string y.value] 28 (0, 0))) := Lib.hid ⟨Chg.below ((Chg.of_below (M := fun k => w.heap.size ≤ k) (by first | exact HS0.out.1.alloc (by first | (simp; done) | (simp; omega)) _ | exact (HS0.out.1.alloc (by first | (simp; done) | (simp; omega)) _).alloc (by first | (simp; done) | (simp; omega)) _)).grown hgr4 (fun k hk => .inl (by simp [Value.ownBlock] at hk; omega))) (fun k hk h => by omega), blk_grown (by first | exact blk_alloc HS0.out.2 _ | exact blk_alloc (blk_alloc HS0.out.2 _) _) hgr4 (by simp [Value.ownBlock]; first | done | omega)⟩
          refine hK.out _ _ HS1.out (fun e => absurd e (by decide)) ?_
          clear hK K'
          simp only [Nat.zero_add, Act.put, List.setIfInBounds_toArray, List.set_cons_zero, List.set_cons_succ]
          refine anyG_all (rs := [5]) (by kernel_rfl) (by simp) ?_
          intro j hj
          simp only [List.mem_cons, List.not_mem_nil, or_false] at hj
          subst hj
          refine anyG_op (late := fun _ => true) (i := 5) (o := { dst := some 21, op := .call { callee := .builtin .append, args := #[.tmp 18, .tmp 20], argTypes := #[22, 22] }, type := 22, pos := "law.go:119", after := #[{ on := 2, ground := .data }, { on := 4, ground := .data }, { on := 2, ground := .chain }], guard := none }) (by rfl) (by rfl) (fun K' hK => ?_)
          refine wp_append_lies _ (.tmp 18) (.tmp 20) 22 (by rfl) (w.heap.size + 1) 28 i0 (.agg #[.string ⟨#[]⟩, .int .i64 0, .string ⟨#[]⟩]) 3 40 Tryd.underlying22 hinf hz0 hz1 hz2 rfl (by decide) (.slice (some ⟨g1, 0, none⟩) l.length cap) l.length (flatM l) (by rfl) (by first | exact hown4 | exact hown4.alloc _) ⟨_, 0, none⟩ 1 1 [.string y.name, .int .i64 y.op, .string y.value] (by rfl) rfl (World.news_of_block (by first | exact blk_new _ _ | (refine blk_grown ?_ hgr4 (by simp [Value.ownBlock]; first | done | omega); first | exact blk_new _ _ | exact blk_alloc (blk_new _ _) _ | exact blk_new' _ _ _ (by simp) | exact blk_alloc (blk_new' _ _ _ (by simp)) _))) (fun u hu => by simp at hu; rcases hu with rfl | rfl | rfl <;> rfl) (by decide) (by unfold maxLen; omega) (by omega) (by have := HS1.out.1.size; have := blk_lt HS1.out.2; first | omega | (simp; omega)) _ rfl (fun g2 cap2 w5 hown5 hgr5 hor5 hlt5 => ?_)
          have HS5 : Hid (Below w.heap.size w w5 ∧ w5.heap[w.heap.size]? = some (.cells #[.string y.name, .int .i64 y.op, .string y.value] 28 (0, 0))) := Lib.hid ⟨Chg.below ((Chg.of_below (M := fun k => w.heap.size ≤ k) (by first | exact HS1.out.1 | exact HS1.out.1.alloc (by have := HS1.out.1.size; first | omega | (simp; done) | (simp; omega)) _)).grown hgr5 (fun k hk => .inl (by have := (hown4.lt k hk).1; omega))) (fun k hk h => by omega), blk_grown (by first | exact HS1.out.2 | exact blk_alloc HS1.out.2 _) hgr5 (fun e => by have := (hown4.lt _ e.symm).1; omega)⟩
          refine hK.out _ _ HS5.out (fun e => absurd e (by decide)) ?_
          clear hK K'
          simp only [Act.put, List.setIfInBounds_toArray, List.set_cons_zero, List.set_cons_succ]
          refine anyG_takeS (i := 6) (d := some 7) (v := .slice (some ⟨g2, 0, none⟩) (l.length + 1) cap2) rfl rfl (by kernel_rfl) (by kernel_rfl) (by kernel_rfl) rfl (fun _ _ _ h => h) HS5.out (.inl ⟨rfl, fun _ _ => rfl⟩) ?_
          simp only [Act.put, List.setIfInBounds_toArray, List.set_cons_zero, List.set_cons_succ]
          refine anyG_end (by kernel_rfl) (NoPanic.normal ⟨rfl, _, _, _, g2, cap2, rfl, ?_, HS5.out.1⟩)
          have := MS.of_row (l := l ++ [y]) (w := w5) (v := .slice (some ⟨g2, 0, none⟩) (l.length + 1) cap2) (by rw [flatM_snoc, List.length_append]; exact hown5) (by first | (simp; done) | (simp; omega))
          exact this
      · refine anyG_op (late := fun _ => true) (i := 4) (o := { dst := some 20, op := .buildSlice 22 1 #[(0, .tmp 19)], type := 22, pos := "law.go:119", after := #[{ on := 3, ground := .data }], guard := none }) (by rfl) (by rfl) (fun K' hK => ?_)
        go_simp
        refine hK.out _ _ ⟨by first | exact HS0.out.1.alloc (by first | (simp; done) | (simp; omega)) _ | exact (HS0.out.1.alloc (by first | (simp; done) | (simp; omega)) _).alloc (by first | (simp; done) | (simp; omega)) _, by first | exact blk_alloc HS0.out.2 _ | exact blk_alloc (blk_alloc HS0.out.2 _) _⟩ (fun e => absurd e (by decide)) ?_
        clear hK K'
        refine anyG_all (rs := [0]) (by kernel_rfl) (by simp) ?_
        intro j hj
        simp only [List.mem_cons, List.not_mem_nil, or_false] at hj
        subst hj
        refine anyG_op (late := fun _ => true) (i := 0) (o := { dst := some 16, op := .buildSlice 22 0 #[], type := 22, pos := "law.go:119", after := #[], guard := none }) (by rfl) (by rfl) (fun K' hK => ?_)
        go_simp
        refine hK.out _ _ ⟨by first | exact HS0.out.1.alloc (by first | (simp; done) | (simp; omega)) _ | exact (HS0.out.1.alloc (by first | (simp; done) | (simp; omega)) _).alloc (by first | (simp; done) | (simp; omega)) _, by first | exact blk_alloc HS0.out.2 _ | exact blk_alloc (blk_alloc HS0.out.2 _) _⟩ (fun e => absurd e (by decide)) ?_
        clear hK K'
        refine anyG_all (rs := [2]) (by kernel_rfl) (by simp) ?_
        intro j hj
        simp only [List.mem_cons, List.not_mem_nil, or_false] at hj
        subst hj
        refine anyG_op (late := fun _ => true) (i := 2) (o := { dst := some 18, op := .call { callee := .builtin .append, args := #[.tmp 16, .tmp 17], argTypes := #[22, 22] }, type := 22, pos := "law.go:119", after := #[{ on := 0, ground := .data }, { on := 1, ground := .data }], guard := none }) (by rfl) (by rfl) (fun K' hK => ?_)
        refine wp_append_lies _ (.tmp 16) (.tmp 17) 22 (by rfl) (w.heap.size + 1) 28 i0 (.agg #[.string ⟨#[]⟩, .int .i64 0, .string ⟨#[]⟩]) 3 40 Tryd.underlying22 hinf hz0 hz1 hz2 rfl (by decide) (.slice (some ⟨_, 0, none⟩) 0 0) 0 [] (by rfl) (by exact ⟨rfl, .inr ⟨_, 0, #[], rfl, (by first | exact Nat.le_refl _ | (simp; done) | (simp; omega) | omega), (by first | exact blk_new _ _ | exact blk_alloc (blk_new _ _) _ | exact blk_new' _ _ _ (by simp) | exact blk_alloc (blk_new' _ _ _ (by simp)) _), by simp, by simp, by simp, by simp⟩⟩) A1 l.length c (flatM l) (by rfl) (flatM_len l) (by exact (HL.out.below (by first | exact HS0.out.1.alloc (by first | (simp; done) | (simp; omega)) _ | exact (HS0.out.1.alloc (by first | (simp; done) | (simp; omega)) _).alloc (by first | (simp; done) | (simp; omega)) _)).cells) (flatM_one l) hpos (by unfold maxLen; omega) (by omega) (by first | (simp; done) | (simp; omega)) _ rfl (fun g1 cap w4 hown4 hgr4 hor4 hlt4 => ?_)
        simp only [Nat.zero_add, List.nil_append] at hown4
        have HS1 : Hid (Below w.heap.size w w4 ∧ w4.heap[w.heap.size]? = some (.cells #[.string y.name, .int .i64 y.op, .string y.value] 28 (0, 0))) := Lib.hid ⟨Chg.below ((Chg.of_below (M := fun k => w.heap.size ≤ k) (by first | exact HS0.out.1.alloc (by first | (simp; done) | (simp; omega)) _ | exact (HS0.out.1.alloc (by first | (simp; done) | (simp; omega)) _).alloc (by first | (simp; done) | (simp; omega)) _)).grown hgr4 (fun k hk => .inl (by simp [Value.ownBlock] at hk; omega))) (fun k hk h => by omega), blk_grown (by first | exact blk_alloc HS0.out.2 _ | exact blk_alloc (blk_alloc HS0.out.2 _) _) hgr4 (by simp [Value.ownBlock]; first | done | omega)⟩
        refine hK.out _ _ HS1.out (fun e => absurd e (by decide)) ?_
        clear hK K'
        simp only [Nat.zero_add, Act.put, List.setIfInBounds_toArray, List.set_cons_zero, List.set_cons_succ]
        refine anyG_all (rs := [5]) (by kernel_rfl) (by simp) ?_
        intro j hj
        simp only [List.mem_cons, List.not_mem_nil, or_false] at hj
        subst hj
        refine anyG_op (late := fun _ => true) (i := 5) (o := { dst := some 21, op := .call { callee := .builtin .append, args := #[.tmp 18, .tmp 20], argTypes := #[22, 22] }, type := 22, pos := "law.go:119", after := #[{ on := 2, ground := .data }, { on := 4, ground := .data }, { on := 2, ground := .chain }], guard := none }) (by rfl) (by rfl) (fun K' hK => ?_)
        refine wp_append_lies _ (.tmp 18) (.tmp 20) 22 (by rfl) (w.heap.size + 1) 28 i0 (.agg #[.string ⟨#[]⟩, .int .i64 0, .string ⟨#[]⟩]) 3 40 Tryd.underlying22 hinf hz0 hz1 hz2 rfl (by decide) (.slice (some ⟨g1, 0, none⟩) l.length cap) l.length (flatM l) (by rfl) (by first | exact hown4 | exact hown4.alloc _) ⟨_, 0, none⟩ 1 1 [.string y.name, .int .i64 y.op, .string y.value] (by rfl) rfl (World.news_of_block (by first | exact blk_new _ _ | (refine blk_grown ?_ hgr4 (by simp [Value.ownBlock]; first | done | omega); first | exact blk_new _ _ | exact blk_alloc (blk_new _ _) _ | exact blk_new' _ _ _ (by simp) | exact blk_alloc (blk_new' _ _ _ (by simp)) _))) (fun u hu => by simp at hu; rcases hu with rfl | rfl | rfl <;> rfl) (by decide) (by unfold maxLen; omega) (by omega) (by have := HS1.out.1.size; have := blk_lt HS1.out.2; first | omega | (simp; omega)) _ rfl (fun g2 cap2 w5 hown5 hgr5 hor5 hlt5 => ?_)
        have HS5 : Hid (Below w.heap.size w w5 ∧ w5.heap[w.heap.size]? = some (.cells #[.string y.name, .int .i64 y.op, .string y.value] 28 (0, 0))) := Lib.hid ⟨Chg.below ((Chg.of_below (M := fun k => w.heap.size ≤ k) (by first | exact HS1.out.1 | exact HS1.out.1.alloc (by have := HS1.out.1.size; first | omega | (simp; done) | (simp; omega)) _)).grown hgr5 (fun k hk => .inl (by have := (hown4.lt k hk).1; omega))) (fun k hk h => by omega), blk_grown (by first | exact HS1.out.2 | exact blk_alloc HS1.out.2 _) hgr5 (fun e => by have := (hown4.lt _ e.symm).1; omega)⟩
        refine hK.out _ _ HS5.out (fun e => absurd e (by decide)) ?_
        clear hK K'
        simp only [Act.put, List.setIfInBounds_toArray, List.set_cons_zero, List.set_cons_succ]
        refine anyG_takeS (i := 6) (d := some 7) (v := .slice (some ⟨g2, 0, none⟩) (l.length + 1) cap2) rfl rfl (by kernel_rfl) (by kernel_rfl) (by kernel_rfl) rfl (fun _ _ _ h => h) HS5.out (.inl ⟨rfl, fun _ _ => rfl⟩) ?_
        simp only [Act.put, List.setIfInBounds_toArray, List.set_cons_zero, List.set_cons_succ]
        refine anyG_end (by kernel_rfl) (NoPanic.normal ⟨rfl, _, _, _, g2, cap2, rfl, ?_, HS5.out.1⟩)
        have := MS.of_row (l := l ++ [y]) (w := w5) (v := .slice (some ⟨g2, 0, none⟩) (l.length + 1) cap2) (by rw [flatM_snoc, List.length_append]; exact hown5) (by first | (simp; done) | (simp; omega))
        exact this
    · rintro a' w2 ⟨v16, v18, v20, g2, cap2, rfl, hall, hb2⟩
      simp only [Act.put, List.setIfInBounds_toArray, List.set_cons_zero, List.set_cons_succ]
      obtain ⟨LL, hLL⟩ : ∃ LL, LL = l ++ [y] := ⟨_, rfl⟩
      rw [← hLL] at hall
      have hll : l.length + 1 = LL.length := by rw [hLL]; simp
      rw [hll] at hall ⊢
      have HALL := Lib.hid hall
      have HLE := Lib.hid hLL
      have HLN := Lib.hid hll
      clear hall hLL hll
      by_cases hc : checkErr (LL.map toMat) = 0
      · have HC := Lib.hid hc
        have h16 : l.length + 1 ≤ 16 := by have := (checkErr_ok.1 hc).1; rw [HLN.out]; simpa using this
        by_cases h8 : 8 < l.length
        · have hd8 : decide ((8 : Int) < (l.length : Int)) = true := decide_eq_true (by omega)
          clear hc h8
          go_wp2_with (first | (go_at_call 8; (fail_if_success (have := hbL)); ((refine (light_calls _ _ LL x _ HALL.out (HX.out.below hb2)).mono ?_); rintro e w3 ⟨lb, rfl, hlb, hbL⟩; cases lb)) | (go_at_call 9; (fail_if_success (have := hbK)); ((refine (check_calls _ LL _ (HALL.out.below hbL)).mono ?_); rintro e w4 ⟨rfl, hbK⟩; rw [HC.out]; have HB4 := Lib.hid (below_thn (below_thn hb2 hbL) hbK))) | (go_at_call 10; (fail_if_success (have := hbW)); ((refine (awake12_calls _ (by first | exact ((ho.below hb2).below hbL).below hbK | exact (ho.below hb2).below hbL)).mono ?_); rintro e w9 ⟨rfl, hbW⟩)))
          all_goals go_ret
          all_goals exact ⟨rfl, by first | exact below_thn (below_thn (below_thn hb2 hbL) hbK) hbW | exact below_thn (below_thn hb2 hbL) hbW⟩
        · have hd8 : decide ((8 : Int) < (l.length : Int)) = false := decide_eq_false (by omega)
          have HCL := Lib.hid (check_mem (l := LL) (m := l) (fun z hz => by rw [HLE.out]; exact List.mem_append_left _ hz) (by omega) hc)
          have HCC := Lib.hid (check_mem (l := LL) (m := l ++ l) (fun z hz => by rw [HLE.out]; rcases List.mem_append.1 hz with h | h <;> exact List.mem_append_left _ h) (by simp; omega) hc)
          have HCN : Hid (checkErr (([] : List SM).map toMat) = 0) := Lib.hid rfl
          have HVD : Hid (holdsAll (([] : List SM).map toMat) (x.map toLbl) = true) := Lib.hid rfl
          obtain ⟨V, hV⟩ : ∃ V, holdsAll (l.map toMat) (x.map toLbl) = V := ⟨_, rfl⟩
          obtain ⟨W1, hW1⟩ : ∃ V, holdsAll ([y].map toMat) (x.map toLbl) = V := ⟨_, rfl⟩
          have HVA := Lib.hid hV
          have hVB : holdsAll (LL.map toMat) (x.map toLbl) = (V && W1) := by rw [HLE.out, holdsAll_append, hV, hW1]
          have hVC : holdsAll ((l ++ l).map toMat) (x.map toLbl) = V := by rw [holdsAll_append, hV, Bool.and_self]
          have HVB := Lib.hid hVB
          have HVC := Lib.hid hVC
          clear hc hV hW1 hVB hVC
          cases V <;> cases W1
          all_goals go_wp2_with (first | (go_at_call 8; (fail_if_success (have := hbL)); ((refine (light_calls _ _ LL x _ HALL.out (HX.out.below hb2)).mono ?_); rintro e w3 ⟨lb, rfl, hlb, hbL⟩; cases lb)) | (go_at_call 9; (fail_if_success (have := hbK)); ((refine (check_calls _ LL _ (HALL.out.below hbL)).mono ?_); rintro e w4 ⟨rfl, hbK⟩; rw [HC.out]; have HB4 := Lib.hid (below_thn (below_thn hb2 hbL) hbK))) | (go_at_call 10; (fail_if_success (have := hbW)); ((refine (awake12_calls _ (by first | exact ((ho.below hb2).below hbL).below hbK | exact (ho.below hb2).below hbL)).mono ?_); rintro e w9 ⟨rfl, hbW⟩)) | (go_at_call 12; (fail_if_success (have := hbT1)); ((refine (to_calls _ l _ (HL.out.below HB4.out) (by omega)).mono ?_); rintro e w5 ⟨v1, rfl, hv1, hbT1⟩; have HV1 := Lib.hid hv1; have HB5 := Lib.hid (below_thn HB4.out hbT1); clear hv1)) | (go_at_call 11; (fail_if_success (have := hbN1)); ((refine (new_ok _ l _ HV1.out HCL.out).mono ?_); rintro e w6 ⟨⟨ga, rfl, hsa⟩, hbN1⟩; have HSA := Lib.hid hsa; have HB6 := Lib.hid (below_thn HB5.out hbN1); clear hsa)) | (go_at_call 12; (fail_if_success (have := hbT2)); ((refine (to_calls _ LL _ ((((HALL.out.below hbL).below hbK).below hbT1).below hbN1) (by have := HLN.out; omega)).mono ?_); rintro e w7 ⟨v2, rfl, hv2, hbT2⟩; have HV2 := Lib.hid hv2; have HB7 := Lib.hid (below_thn HB6.out hbT2); clear hv2)) | (go_at_call 11; (fail_if_success (have := hbN2)); ((refine (new_ok _ LL _ HV2.out HC.out).mono ?_); rintro e w8 ⟨⟨gb, rfl, hsb⟩, hbN2⟩; have HSB := Lib.hid hsb; have HB8 := Lib.hid (below_thn HB7.out hbN2); clear hsb)) | (at_builtin; (fail_if_success (have := hgr9)); (refine wpList_append_lies _ rfl (.tmp 50) (.tmp 51) 22 rfl w8.heap.size 28 i0 (.agg #[.string ⟨#[]⟩, .int .i64 0, .string ⟨#[]⟩]) 3 40 Tryd.underlying22 hinf hz0 hz1 hz2 rfl (by decide) (.slice (some ⟨w8.heap.size, 0, none⟩) 0 0) 0 [] rfl (by exact ⟨rfl, .inr ⟨_, 0, #[], rfl, Nat.le_refl _, blk_new _ _, by simp, by simp, by simp, by simp⟩⟩) A1 l.length c (flatM l) rfl (flatM_len l) (by exact (HL.out.below (below_thn HB8.out (Below.alloc (Below.refl _ _) (Nat.le_refl _) _))).cells) (flatM_one l) hpos (by unfold maxLen; omega) (by omega) (by simp) _ rfl (fun g3 cap3 w9 hown9 hgr9 hor9 hlt9 => ?_)); simp only [Nat.zero_add, List.nil_append] at hown9; have HO9 := Lib.hid hown9; have H89 : Hid (Below w8.heap.size w8 w9) := Lib.hid (((Chg.alloc (Chg.refl (fun k => w8.heap.size ≤ k) w8) _).grown hgr9 (fun k hk => .inl (by simp [Value.ownBlock] at hk; omega))).below (fun k hk h => by omega)); have HB9 := Lib.hid (below_thn HB8.out H89.out); clear hown9) | (at_builtin; (fail_if_success (have := hgr10)); (refine wpList_append_lies _ rfl (.tmp 52) (.tmp 53) 22 rfl w8.heap.size 28 i0 (.agg #[.string ⟨#[]⟩, .int .i64 0, .string ⟨#[]⟩]) 3 40 Tryd.underlying22 hinf hz0 hz1 hz2 rfl (by decide) (.slice (some ⟨g3, 0, none⟩) l.length cap3) l.length (flatM l) rfl (by exact HO9.out) A1 l.length c (flatM l) rfl (flatM_len l) (by exact (HL.out.below HB9.out).cells) (flatM_one l) hpos (by unfold maxLen; omega) (by omega) (by exact H89.out.size) _ rfl (fun g4 cap4 w10 hown10 hgr10 hor10 hlt10 => ?_)); have HO10 := Lib.hid hown10; have H910 : Hid (Below w8.heap.size w8 w10) := Lib.hid (((Chg.of_below (M := fun k => w8.heap.size ≤ k) H89.out).grown hgr10 (fun k hk => .inl (HO9.out.lt k hk).1)).below (fun k hk h => by omega)); have HB10 := Lib.hid (below_thn HB8.out H910.out); clear hown10) | (go_at_call 12; (fail_if_success (have := hbT3)); ((refine (to_calls _ (l ++ l) _ (MS.of_row (l := l ++ l) (by rw [List.length_append, flatM_append]; exact HO10.out) (by simp; omega)) (by simp; omega)).mono ?_); rintro e w11 ⟨v3, rfl, hv3, hbT3⟩; have HV3 := Lib.hid hv3; have HB11 := Lib.hid (below_thn HB10.out hbT3); clear hv3)) | (go_at_call 11; (fail_if_success (have := hbN3)); ((refine (new_ok _ (l ++ l) _ HV3.out HCC.out).mono ?_); rintro e w12 ⟨⟨gc, rfl, hsc⟩, hbN3⟩; have HSC := Lib.hid hsc; have HB12 := Lib.hid (below_thn HB11.out hbN3); clear hsc)) | (go_at_call 11; (fail_if_success (have := hbN4)); ((refine (new_ok _ [] _ ⟨none, 0, rfl, by simp, fun i x hx => by simp at hx⟩ rfl).mono ?_); rintro e w13 ⟨⟨gd, rfl, hsd⟩, hbN4⟩; have HSD := Lib.hid hsd; have HBW := Lib.hid (below_thn HB12.out hbN4); have HSC := Lib.hid (HSC.out.below hbN4); have HSB := Lib.hid ((((HSB.out.below H910.out).below hbT3).below hbN3).below hbN4); have HSA := Lib.hid ((((((HSA.out.below hbT2).below hbN2).below H910.out).below hbT3).below hbN3).below hbN4); have HXX := Lib.hid (HX.out.below HBW.out); clear hsd)) | (go_at_call 10; (refine (awake12_calls _ (ho.below HBW.out)).mono ?_); rintro e wQ ⟨rfl, hbQ⟩; have HSA := Lib.hid (HSA.out.below hbQ); have HSB := Lib.hid (HSB.out.below hbQ); have HSC := Lib.hid (HSC.out.below hbQ); have HSD := Lib.hid (HSD.out.below hbQ); have HXX := Lib.hid (HXX.out.below hbQ); have HBW := Lib.hid (below_thn HBW.out hbQ)) | (go_at_call_of 13 (Value.pointer (some ⟨ga, 0, none⟩)); (refine (selMatch_calls ga l _ HSA.out (check_mats HCL.out) _ x HXX.out (fun z hz => hlb (by first | trivial | rfl) z hz)).mono ?_); rintro e wQ ⟨rfl, hbQ⟩; rw [HVA.out]; have HSA := Lib.hid (HSA.out.below hbQ); have HSB := Lib.hid (HSB.out.below hbQ); have HSC := Lib.hid (HSC.out.below hbQ); have HSD := Lib.hid (HSD.out.below hbQ); have HXX := Lib.hid (HXX.out.below hbQ); have HBW := Lib.hid (below_thn HBW.out hbQ)) | (go_at_call_of 13 (Value.pointer (some ⟨gb, 0, none⟩)); (refine (selMatch_calls gb LL _ HSB.out (check_mats HC.out) _ x HXX.out (fun z hz => hlb (by first | trivial | rfl) z hz)).mono ?_); rintro e wQ ⟨rfl, hbQ⟩; rw [HVB.out]; have HSA := Lib.hid (HSA.out.below hbQ); have HSB := Lib.hid (HSB.out.below hbQ); have HSC := Lib.hid (HSC.out.below hbQ); have HSD := Lib.hid (HSD.out.below hbQ); have HXX := Lib.hid (HXX.out.below hbQ); have HBW := Lib.hid (below_thn HBW.out hbQ)) | (go_at_call_of 13 (Value.pointer (some ⟨gc, 0, none⟩)); (refine (selMatch_calls gc (l ++ l) _ HSC.out (check_mats HCC.out) _ x HXX.out (fun z hz => hlb (by first | trivial | rfl) z hz)).mono ?_); rintro e wQ ⟨rfl, hbQ⟩; rw [HVC.out]; have HSA := Lib.hid (HSA.out.below hbQ); have HSB := Lib.hid (HSB.out.below hbQ); have HSC := Lib.hid (HSC.out.below hbQ); have HSD := Lib.hid (HSD.out.below hbQ); have HXX := Lib.hid (HXX.out.below hbQ); have HBW := Lib.hid (below_thn HBW.out hbQ)) | (go_at_call_of 13 (Value.pointer (some ⟨gd, 0, none⟩)); (refine (selMatch_calls gd [] _ HSD.out (check_mats HCN.out) _ x HXX.out (fun z hz => hlb (by first | trivial | rfl) z hz)).mono ?_); rintro e wQ ⟨rfl, hbQ⟩; rw [HVD.out]; have HSA := Lib.hid (HSA.out.below hbQ); have HSB := Lib.hid (HSB.out.below hbQ); have HSC := Lib.hid (HSC.out.below hbQ); have HSD := Lib.hid (HSD.out.below hbQ); have HXX := Lib.hid (HXX.out.below hbQ); have HBW := Lib.hid (below_thn HBW.out hbQ)))
          all_goals go_ret
          all_goals exact ⟨rfl, by first | exact HBW.out | exact below_thn (below_thn (below_thn hb2 hbL) hbK) hbW | exact below_thn (below_thn hb2 hbL) hbW⟩
      · obtain ⟨C, hC⟩ : ∃ C, checkErr (LL.map toMat) = C := ⟨_, rfl⟩
        have HC := Lib.hid hC
        have hcz : ((C : Int) == 0) = false := by simp; intro h; exact hc (by rw [hC]; exact h)
        have hcn : ((C : Int) != 0) = true := by simp; intro h; exact hc (by rw [hC]; exact h)
        clear hc hC
        go_wp2_with (first | (go_at_call 8; (fail_if_success (have := hbL)); ((refine (light_calls _ _ LL x _ HALL.out (HX.out.below hb2)).mono ?_); rintro e w3 ⟨lb, rfl, hlb, hbL⟩; cases lb)) | (go_at_call 9; (fail_if_success (have := hbK)); ((refine (check_calls _ LL _ (HALL.out.below hbL)).mono ?_); rintro e w4 ⟨rfl, hbK⟩; rw [HC.out]; have HB4 := Lib.hid (below_thn (below_thn hb2 hbL) hbK))) | (go_at_call 10; (fail_if_success (have := hbW)); ((refine (awake12_calls _ (by first | exact ((ho.below hb2).below hbL).below hbK | exact (ho.below hb2).below hbL)).mono ?_); rintro e w9 ⟨rfl, hbW⟩)))
        all_goals go_ret
        all_goals exact ⟨rfl, by first | exact below_thn (below_thn (below_thn hb2 hbL) hbK) hbW | exact below_thn (below_thn hb2 hbL) hbW⟩
end Go.Proofs.YtmlmnckhiianhaaDoor
