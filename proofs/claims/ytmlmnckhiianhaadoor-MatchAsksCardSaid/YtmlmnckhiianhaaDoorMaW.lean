/- The document's Print, walked. -/
import Derived.Test.YtmlmnckhiianhaaDoorMaE
import Derived.Test.YtmlmnckhiianhaaDoorMaP
import Derived.Test.YtmlmnckhiianhaaDoorMaN
import Derived.Test.YtmlmnckhiianhaaDoorMaH
import Derived.Test.YtmlmnckhiianhaaDoorMaQ
namespace Go.Proofs.YtmlmnckhiianhaaDoor
open Go.RowKit
set_option linter.unusedVariables false
set_option linter.unusedSimpArgs false

/-- The ways, as the document has them. -/
def opT : Int → ByteArray := fun k => if k = 0 then ⟨#[61]⟩ else if k = 1 then ⟨#[33, 61]⟩ else if k = 2 then ⟨#[61, 126]⟩ else ⟨#[33, 126]⟩
theorem opT_pre (k : Int) (h0 : 0 ≤ k) (h1 : k < 4) : bys (opT k) = pre k.toNat := by
  have h : k = 0 ∨ k = 1 ∨ k = 2 ∨ k = 3 := by omega
  rcases h with rfl | rfl | rfl | rfl <;> rfl
theorem printJ_at (b : Bool) (m : Mat) (l : List Mat) : printJ b (m :: l) = (if b then [] else [44]) ++ (m.name ++ (pre m.op.toNat ++ ((34 :: esc m.value) ++ printJ false l))) := by
  cases b <;> simp [printJ, printM]

/-- What the loads of one matcher read. -/
def SeeM (wo : World) (g o : Nat) (x : SM) (u : World) : Prop := Below wo.heap.size wo u ∧ u.cell? ⟨g, o, none⟩ = some (.string x.name) ∧ u.cell? ⟨g, o + 1, none⟩ = some (.int .i64 x.op) ∧ u.cell? ⟨g, o + 2, none⟩ = some (.string x.value)
theorem SeeM.of {wo u : World} {g o : Nat} {x : SM} (h : wo.rangeAt g o (smCells x)) (hb : Below wo.heap.size wo u) : SeeM wo g o x u := by
  obtain ⟨h0, h1, h2⟩ := range3 (rangeAt_below h hb)
  exact ⟨hb, h0, h1, h2⟩
theorem SeeM.alloc {wo u : World} {g o : Nat} {x : SM} (hr : wo.rangeAt g o (smCells x)) (h : SeeM wo g o x u) (b : Obj) : SeeM wo g o x (u.alloc b) := SeeM.of hr (h.1.alloc h.1.size _)
theorem SeeM.below {wo u u' : World} {g o : Nat} {x : SM} (hr : wo.rangeAt g o (smCells x)) (h : SeeM wo g o x u) (b : Below u.heap.size u u') : SeeM wo g o x u' := SeeM.of hr (below_thn h.1 b)
theorem SeeM.drew {wo : World} {g o : Nat} {x : SM} (hr : wo.rangeAt g o (smCells x)) : SeeM wo g o x wo.drew := SeeM.of hr ⟨rfl, rfl, rfl, Nat.le_refl _, fun _ _ => rfl⟩
theorem opT_at (T : Nat) (k : Int) (h0 : 0 ≤ k) (h1 : k < 4) (W : World) : (W.alloc (.cells #[.string ⟨#[61]⟩, .string ⟨#[33, 61]⟩, .string ⟨#[61, 126]⟩, .string ⟨#[33, 126]⟩] T)).cell? ⟨W.heap.size, k.toNat, none⟩ = some (.string (opT k)) := by
  have h : k = 0 ∨ k = 1 ∨ k = 2 ∨ k = 3 := by omega
  rcases h with rfl | rfl | rfl | rfl <;> exact (blk_cell (blk_new _ _)).trans rfl
set_option maxRecDepth 100000 in
set_option maxHeartbeats 2000000 in
theorem print_calls (v : Value) (l : List SM) (w : World) (hl : MS w v l) (hop : ∀ m, m ∈ l → 0 ≤ m.op ∧ m.op < 4) (hT : (printAll (l.map toMat)).length ≤ 4611686018427387904) :
    Calls Tryd.prog 16 #[v] w fun e w' => ∃ q : ByteArray, e = .returned (.string q) ∧ bys q = printAll (l.map toMat) ∧ Below w.heap.size w w' := by
  have HT := Lib.hid hT
  obtain ⟨A, c, rfl, hn2, hm⟩ := hl
  have HM := Lib.hid hm
  clear hm hT
  go_enter Tryd.func16, Tryd.ntmps16
  go_wp2
  go_loopg [3, 4] (l.length + 1) (fun k u3 u4 wr => ∃ (i : Nat) (q : ByteArray), u3 = .string q ∧ u4 = .int .i64 (i : Int) ∧ i + k = l.length + 1 ∧ i ≤ l.length ∧ Hid (bys q ++ printJ (decide (i = 0)) ((l.drop i).map toMat) = printAll (l.map toMat)) ∧ Hid (Below w.heap.size w wr))
  case atStart => exact ⟨0, ⟨#[123]⟩, rfl, rfl, by omega, by omega, Lib.hid rfl, Lib.hid (Below.refl _ _)⟩
  case round =>
    obtain ⟨i, q, rfl, rfl, hik, hil, HQ, hbel⟩ := hrel
    obtain ⟨wo, rfl⟩ : ∃ m : World, m = wr := ⟨_, rfl⟩
    have hql : q.size + (printJ (decide (i = 0)) ((l.drop i).map toMat)).length = (printAll (l.map toMat)).length := by
      have := congrArg List.length HQ.out
      rw [List.length_append, bys_len] at this
      exact this
    by_cases hi : i < l.length
    · have hc1 : decide (i < l.length) = true := decide_eq_true hi
      have hc2 : (i : Int) < (l.length : Int) := by omega
      have hc3 : (0 : Int) ≤ (i : Int) := by omega
      have hw1 : IntKind.i64.wrap ((i : Int) + 1) = (i : Int) + 1 := IntWalk.i64_in _ (by omega)
      obtain ⟨x, hxl⟩ : ∃ x, l[i]? = some x := ⟨_, List.getElem?_eq_getElem hi⟩
      obtain ⟨g, o, rfl, hrg⟩ := HM.out i x hxl
      have HRG := Lib.hid (rangeAt_below hrg hbel.out)
      obtain ⟨ho0, ho4⟩ := hop x (List.mem_of_getElem? hxl)
      have hdr : l.drop i = x :: l.drop (i + 1) := by
        rw [List.drop_eq_getElem_cons hi]; congr 1
        rw [List.getElem?_eq_getElem hi] at hxl; injection hxl
      rw [hdr, List.map_cons, printJ_at] at hql
      have HQ1 := HQ.out
      rw [hdr, List.map_cons, printJ_at] at HQ1
      have HQ2 := Lib.hid HQ1
      have hq2 := congrArg bys (rfl : q = q)
      clear HQ1 hdr hxl hrg hq2
      by_cases hi0 : i = 0
      · have hz : decide (0 < (i : Int)) = false := decide_eq_false (by omega)
        have hz2 : ¬ (0 < (i : Int)) := by omega
        rw [show decide (i = 0) = true from decide_eq_true hi0] at HQ2
        obtain ⟨q1, hq1e⟩ : ∃ q1, q1 = q := ⟨_, rfl⟩
        subst hq1e
        have HQ3 : Hid (bys q1 ++ ((toMat x).name ++ (pre (toMat x).op.toNat ++ ((34 :: esc (toMat x).value) ++ printJ false ((l.drop (i + 1)).map toMat)))) = printAll (l.map toMat)) := HQ2
        clear HQ2 hql HQ hi0
        go_wp2
        have hlen : q1.size + x.name.size + (opT x.op).size + ((esc (bys x.value)).length + 1) ≤ 4611686018427387904 := by
          have h1 := congrArg List.length HQ3.out
          have h2 := HT.out
          have h3 := congrArg List.length (opT_pre x.op ho0 ho4)
          simp only [List.length_append, List.length_cons, bys_len, toMat] at h1 h3
          omega
        have HLN := Lib.hid hlen
        have hes : (esc (bys x.value)).length ≤ 4611686018427387904 := by omega
        have HES := Lib.hid hes
        have hq1 : ¬ (9223372036854775807 < q1.size + x.name.size) := by omega
        have hq2 : ¬ (9223372036854775807 < (q1 ++ x.name).size + (opT x.op).size) := by rw [ByteArray.size_append]; omega
        have hq2b : ¬ (9223372036854775807 < q1.size + x.name.size + (opT x.op).size) := by omega
        have hx4 : x.op.toNat < 4 := by omega
        have HOT := Lib.hid (opT_at 9 x.op ho0 ho4)
        have HEQ := Lib.hid (opT_pre x.op ho0 ho4)
        have hot := HOT.out wo
        clear hlen hes
        refine wp_region_G (S := fun u => Below wo.heap.size wo u ∧ u.cell? ⟨g, o + i * 3, none⟩ = some (.string x.name) ∧ u.cell? ⟨g, o + i * 3 + 1, none⟩ = some (.int .i64 x.op) ∧ u.cell? ⟨g, o + i * 3 + 2, none⟩ = some (.string x.value)) (T := fun u => Below wo.heap.size wo u ∧ u.cell? ⟨g, o + i * 3, none⟩ = some (.string x.name) ∧ u.cell? ⟨g, o + i * 3 + 1, none⟩ = some (.int .i64 x.op) ∧ u.cell? ⟨g, o + i * 3 + 2, none⟩ = some (.string x.value)) (late := fun _ => true) (by kernel_rfl) ?_
        have HS0 := Lib.hid (show SeeM wo g (o + i * 3) x wo.drew from SeeM.drew HRG.out)
        refine anyG_takeS (i := 0) (d := some 15) (v := (.string q1)) rfl rfl (by kernel_rfl) (by kernel_rfl) (by kernel_rfl) rfl (fun _ _ _ h => h) HS0.out (.inl ⟨rfl, fun _ _ => rfl⟩) ?_
        try simp only [Act.put, List.setIfInBounds_toArray, List.set_cons_zero, List.set_cons_succ]
        refine anyG_takeS (i := 1) (d := some 16) (v := (.slice (some ⟨g, o, none⟩) l.length c)) rfl rfl (by kernel_rfl) (by kernel_rfl) (by kernel_rfl) rfl (fun _ _ _ h => h) HS0.out (.inl ⟨rfl, fun _ _ => rfl⟩) ?_
        try simp only [Act.put, List.setIfInBounds_toArray, List.set_cons_zero, List.set_cons_succ]
        refine anyG_takeS (i := 2) (d := some 17) (v := (.int .i64 (i : Int))) rfl rfl (by kernel_rfl) (by kernel_rfl) (by kernel_rfl) rfl (fun _ _ _ h => h) HS0.out (.inl ⟨rfl, fun _ _ => rfl⟩) ?_
        try simp only [Act.put, List.setIfInBounds_toArray, List.set_cons_zero, List.set_cons_succ]
        refine anyG_takeS (i := 3) (d := some 18) (v := (.pointer (some ⟨g, o + i * 3, none⟩))) rfl rfl (by kernel_rfl) (by kernel_rfl) (by kernel_rfl) rfl (fun _ _ _ h => h) HS0.out (.inl ⟨by rfl, fun u hu => by (obtain ⟨s0, s1, s2, s3⟩ := hu; go_simp)⟩) ?_
        try simp only [Act.put, List.setIfInBounds_toArray, List.set_cons_zero, List.set_cons_succ]
        refine anyG_takeS (i := 4) (d := some 19) (v := (.pointer (some ⟨g, o + i * 3, none⟩))) rfl rfl (by kernel_rfl) (by kernel_rfl) (by kernel_rfl) rfl (fun _ _ _ h => h) HS0.out (.inl ⟨by rfl, fun u hu => by (obtain ⟨s0, s1, s2, s3⟩ := hu; go_simp)⟩) ?_
        try simp only [Act.put, List.setIfInBounds_toArray, List.set_cons_zero, List.set_cons_succ]
        refine anyG_takeS (i := 5) (d := some 20) (v := (.string x.name)) rfl rfl (by kernel_rfl) (by kernel_rfl) (by kernel_rfl) rfl (fun _ _ _ h => h) HS0.out (.inl ⟨by rfl, fun u hu => by (obtain ⟨s0, s1, s2, s3⟩ := hu; go_simp)⟩) ?_
        try simp only [Act.put, List.setIfInBounds_toArray, List.set_cons_zero, List.set_cons_succ]
        refine anyG_takeS (i := 6) (d := some 21) (v := (.string (q1 ++ x.name))) rfl rfl (by kernel_rfl) (by kernel_rfl) (by kernel_rfl) rfl (fun _ _ _ h => h) HS0.out (.inl ⟨by rfl, fun u hu => by (obtain ⟨s0, s1, s2, s3⟩ := hu; go_simp)⟩) ?_
        try simp only [Act.put, List.setIfInBounds_toArray, List.set_cons_zero, List.set_cons_succ]
        refine anyG_takeS (i := 8) (d := some 23) (v := (.slice (some ⟨g, o, none⟩) l.length c)) rfl rfl (by kernel_rfl) (by kernel_rfl) (by kernel_rfl) rfl (fun _ _ _ h => h) HS0.out (.inl ⟨rfl, fun _ _ => rfl⟩) ?_
        try simp only [Act.put, List.setIfInBounds_toArray, List.set_cons_zero, List.set_cons_succ]
        refine anyG_takeS (i := 9) (d := some 24) (v := (.int .i64 (i : Int))) rfl rfl (by kernel_rfl) (by kernel_rfl) (by kernel_rfl) rfl (fun _ _ _ h => h) HS0.out (.inl ⟨rfl, fun _ _ => rfl⟩) ?_
        try simp only [Act.put, List.setIfInBounds_toArray, List.set_cons_zero, List.set_cons_succ]
        refine anyG_takeS (i := 10) (d := some 25) (v := (.pointer (some ⟨g, o + i * 3, none⟩))) rfl rfl (by kernel_rfl) (by kernel_rfl) (by kernel_rfl) rfl (fun _ _ _ h => h) HS0.out (.inl ⟨by rfl, fun u hu => by (obtain ⟨s0, s1, s2, s3⟩ := hu; go_simp)⟩) ?_
        try simp only [Act.put, List.setIfInBounds_toArray, List.set_cons_zero, List.set_cons_succ]
        refine anyG_takeS (i := 11) (d := some 26) (v := (.pointer (some ⟨g, o + i * 3 + 1, none⟩))) rfl rfl (by kernel_rfl) (by kernel_rfl) (by kernel_rfl) rfl (fun _ _ _ h => h) HS0.out (.inl ⟨by rfl, fun u hu => by (obtain ⟨s0, s1, s2, s3⟩ := hu; go_simp)⟩) ?_
        try simp only [Act.put, List.setIfInBounds_toArray, List.set_cons_zero, List.set_cons_succ]
        refine anyG_takeS (i := 12) (d := some 27) (v := (.int .i64 x.op)) rfl rfl (by kernel_rfl) (by kernel_rfl) (by kernel_rfl) rfl (fun _ _ _ h => h) HS0.out (.inl ⟨by rfl, fun u hu => by (obtain ⟨s0, s1, s2, s3⟩ := hu; go_simp)⟩) ?_
        try simp only [Act.put, List.setIfInBounds_toArray, List.set_cons_zero, List.set_cons_succ]
        refine anyG_takeS (i := 16) (d := some 31) (v := (.slice (some ⟨g, o, none⟩) l.length c)) rfl rfl (by kernel_rfl) (by kernel_rfl) (by kernel_rfl) rfl (fun _ _ _ h => h) HS0.out (.inl ⟨rfl, fun _ _ => rfl⟩) ?_
        try simp only [Act.put, List.setIfInBounds_toArray, List.set_cons_zero, List.set_cons_succ]
        refine anyG_takeS (i := 17) (d := some 32) (v := (.int .i64 (i : Int))) rfl rfl (by kernel_rfl) (by kernel_rfl) (by kernel_rfl) rfl (fun _ _ _ h => h) HS0.out (.inl ⟨rfl, fun _ _ => rfl⟩) ?_
        try simp only [Act.put, List.setIfInBounds_toArray, List.set_cons_zero, List.set_cons_succ]
        refine anyG_takeS (i := 18) (d := some 33) (v := (.pointer (some ⟨g, o + i * 3, none⟩))) rfl rfl (by kernel_rfl) (by kernel_rfl) (by kernel_rfl) rfl (fun _ _ _ h => h) HS0.out (.inl ⟨by rfl, fun u hu => by (obtain ⟨s0, s1, s2, s3⟩ := hu; go_simp)⟩) ?_
        try simp only [Act.put, List.setIfInBounds_toArray, List.set_cons_zero, List.set_cons_succ]
        refine anyG_takeS (i := 19) (d := some 34) (v := (.pointer (some ⟨g, o + i * 3 + 2, none⟩))) rfl rfl (by kernel_rfl) (by kernel_rfl) (by kernel_rfl) rfl (fun _ _ _ h => h) HS0.out (.inl ⟨by rfl, fun u hu => by (obtain ⟨s0, s1, s2, s3⟩ := hu; go_simp)⟩) ?_
        try simp only [Act.put, List.setIfInBounds_toArray, List.set_cons_zero, List.set_cons_succ]
        refine anyG_takeS (i := 20) (d := some 35) (v := (.string x.value)) rfl rfl (by kernel_rfl) (by kernel_rfl) (by kernel_rfl) rfl (fun _ _ _ h => h) HS0.out (.inl ⟨by rfl, fun u hu => by (obtain ⟨s0, s1, s2, s3⟩ := hu; go_simp)⟩) ?_
        try simp only [Act.put, List.setIfInBounds_toArray, List.set_cons_zero, List.set_cons_succ]
        refine anyG_all (rs := [7, 21]) (by kernel_rfl) (by simp) ?_
        intro j hj
        simp only [List.mem_cons, List.not_mem_nil, or_false] at hj
        rcases hj with rfl | rfl
        · refine anyG_op (late := fun _ => true) (i := 7) (o := { dst := some 22, op := .buildSlice 68 4 #[(0, .const (.string ⟨#[61]⟩)), (1, .const (.string ⟨#[33, 61]⟩)), (2, .const (.string ⟨#[61, 126]⟩)), (3, .const (.string ⟨#[33, 126]⟩))], type := 68, pos := "ref.go:78", after := #[], guard := none }) (by rfl) (by rfl) (fun K' hK => ?_)
          go_simp
          refine hK.out _ _ (SeeM.of HRG.out (((Below.refl _ _).alloc (Nat.le_refl _) _).drew)) (fun e => absurd e (by decide)) ?_
          clear hK K'
          try simp only [Act.put, List.setIfInBounds_toArray, List.set_cons_zero, List.set_cons_succ]
          have HS1 := Lib.hid (show SeeM wo g (o + i * 3) x (wo.alloc (.cells #[.string ⟨#[61]⟩, .string ⟨#[33, 61]⟩, .string ⟨#[61, 126]⟩, .string ⟨#[33, 126]⟩] 9)).drew from SeeM.of HRG.out (((Below.refl _ _).alloc (Nat.le_refl _) _).drew))
          clear HS0
          have HS0 := HS1
          clear HS1
          refine anyG_takeS (i := 13) (d := some 28) (v := (.pointer (some ⟨wo.heap.size, x.op.toNat, none⟩))) rfl rfl (by kernel_rfl) (by kernel_rfl) (by kernel_rfl) rfl (fun _ _ _ h => h) HS0.out (.inl ⟨by rfl, fun u hu => by (obtain ⟨s0, s1, s2, s3⟩ := hu; go_simp)⟩) ?_
          try simp only [Act.put, List.setIfInBounds_toArray, List.set_cons_zero, List.set_cons_succ]
          refine anyG_all (rs := [14, 21]) (by kernel_rfl) (by simp) ?_
          intro j hj
          simp only [List.mem_cons, List.not_mem_nil, or_false] at hj
          rcases hj with rfl | rfl
          · refine anyG_op (late := fun _ => true) (i := 14) (o := { dst := some 29, op := .load 9 (.tmp 28), type := 9, pos := "ref.go:78", after := #[{ on := 13, ground := .data }], guard := none }) (by rfl) (by rfl) (fun K' hK => ?_)
            go_simp
            refine hK.out _ _ (HS0.out) (fun e => absurd e (by decide)) ?_
            clear hK K'
            try simp only [Act.put, List.setIfInBounds_toArray, List.set_cons_zero, List.set_cons_succ]
            refine anyG_takeS (i := 15) (d := some 30) (v := (.string (q1 ++ x.name ++ opT x.op))) rfl rfl (by kernel_rfl) (by kernel_rfl) (by kernel_rfl) rfl (fun _ _ _ h => h) HS0.out (.inl ⟨by rfl, fun u hu => by (obtain ⟨s0, s1, s2, s3⟩ := hu; go_simp)⟩) ?_
            try simp only [Act.put, List.setIfInBounds_toArray, List.set_cons_zero, List.set_cons_succ]
            refine anyG_all (rs := [21]) (by kernel_rfl) (by simp) ?_
            intro j hj
            simp only [List.mem_cons, List.not_mem_nil, or_false] at hj
            subst hj
            refine anyG_op (late := fun _ => true) (i := 21) (o := { dst := some 36, op := .call { callee := .value (.func 28), args := #[.tmp 35], argTypes := #[9] }, type := 9, pos := "ref.go:78", after := #[{ on := 20, ground := .data }], guard := none }) (by rfl) (by rfl) (fun K' hK => ?_)
            go_simp
            refine (quote_calls x.value HES.out _).mono ?_
            rintro e w4 ⟨qq, rfl, hqq, hw4⟩
            rw [hw4]
            have HQQ := Lib.hid hqq
            clear hw4 hqq
            have hq3 : ¬ (9223372036854775807 < (q1 ++ x.name ++ opT x.op).size + qq.size) := by (have h1 := HLN.out; have h2 := congrArg List.length HQQ.out; simp only [List.length_cons, bys_len] at h2; rw [ByteArray.size_append, ByteArray.size_append]; omega)
            have hq3b : ¬ (9223372036854775807 < q1.size + x.name.size + (opT x.op).size + qq.size) := by (have h1 := HLN.out; have h2 := congrArg List.length HQQ.out; simp only [List.length_cons, bys_len] at h2; omega)
            refine hK.out _ _ (HS0.out) (fun e => absurd e (by decide)) ?_
            clear hK K'
            try simp only [Act.put, List.setIfInBounds_toArray, List.set_cons_zero, List.set_cons_succ]
            refine anyG_takeS (i := 22) (d := some 37) (v := (.string (q1 ++ x.name ++ opT x.op ++ qq))) rfl rfl (by kernel_rfl) (by kernel_rfl) (by kernel_rfl) rfl (fun _ _ _ h => h) HS0.out (.inl ⟨by rfl, fun u hu => by (obtain ⟨s0, s1, s2, s3⟩ := hu; go_simp)⟩) ?_
            try simp only [Act.put, List.setIfInBounds_toArray, List.set_cons_zero, List.set_cons_succ]
            refine anyG_takeS (i := 23) (d := some 3) (v := (.string (q1 ++ x.name ++ opT x.op ++ qq))) rfl rfl (by kernel_rfl) (by kernel_rfl) (by kernel_rfl) rfl (fun _ _ _ h => h) HS0.out (.inl ⟨rfl, fun _ _ => rfl⟩) ?_
            try simp only [Act.put, List.setIfInBounds_toArray, List.set_cons_zero, List.set_cons_succ]
            refine anyG_end (by kernel_rfl) (NoPanic.normal ?_)
            go_wp2
            go_roundg (gk - 1)
            case measure => omega
            case rel => exact ⟨i + 1, _, rfl, by go_num, by omega, by omega, Lib.hid (by rw [show decide (i + 1 = 0) = false from decide_eq_false (by omega), bys_app, bys_app, bys_app, HQQ.out, HEQ.out, ← HQ3.out]; simp [toMat]), Lib.hid ((Chg.drew (Chg.of_below (M := fun _ => False) (hbel.out.alloc hbel.out.size _))).below (fun k _ h => h))⟩
          · refine anyG_op (late := fun _ => true) (i := 21) (o := { dst := some 36, op := .call { callee := .value (.func 28), args := #[.tmp 35], argTypes := #[9] }, type := 9, pos := "ref.go:78", after := #[{ on := 20, ground := .data }], guard := none }) (by rfl) (by rfl) (fun K' hK => ?_)
            go_simp
            refine (quote_calls x.value HES.out _).mono ?_
            rintro e w4 ⟨qq, rfl, hqq, hw4⟩
            rw [hw4]
            have HQQ := Lib.hid hqq
            clear hw4 hqq
            have hq3 : ¬ (9223372036854775807 < (q1 ++ x.name ++ opT x.op).size + qq.size) := by (have h1 := HLN.out; have h2 := congrArg List.length HQQ.out; simp only [List.length_cons, bys_len] at h2; rw [ByteArray.size_append, ByteArray.size_append]; omega)
            have hq3b : ¬ (9223372036854775807 < q1.size + x.name.size + (opT x.op).size + qq.size) := by (have h1 := HLN.out; have h2 := congrArg List.length HQQ.out; simp only [List.length_cons, bys_len] at h2; omega)
            refine hK.out _ _ (HS0.out) (fun e => absurd e (by decide)) ?_
            clear hK K'
            try simp only [Act.put, List.setIfInBounds_toArray, List.set_cons_zero, List.set_cons_succ]
            refine anyG_all (rs := [14]) (by kernel_rfl) (by simp) ?_
            intro j hj
            simp only [List.mem_cons, List.not_mem_nil, or_false] at hj
            subst hj
            refine anyG_op (late := fun _ => true) (i := 14) (o := { dst := some 29, op := .load 9 (.tmp 28), type := 9, pos := "ref.go:78", after := #[{ on := 13, ground := .data }], guard := none }) (by rfl) (by rfl) (fun K' hK => ?_)
            go_simp
            refine hK.out _ _ (HS0.out) (fun e => absurd e (by decide)) ?_
            clear hK K'
            try simp only [Act.put, List.setIfInBounds_toArray, List.set_cons_zero, List.set_cons_succ]
            refine anyG_takeS (i := 15) (d := some 30) (v := (.string (q1 ++ x.name ++ opT x.op))) rfl rfl (by kernel_rfl) (by kernel_rfl) (by kernel_rfl) rfl (fun _ _ _ h => h) HS0.out (.inl ⟨by rfl, fun u hu => by (obtain ⟨s0, s1, s2, s3⟩ := hu; go_simp)⟩) ?_
            try simp only [Act.put, List.setIfInBounds_toArray, List.set_cons_zero, List.set_cons_succ]
            refine anyG_takeS (i := 22) (d := some 37) (v := (.string (q1 ++ x.name ++ opT x.op ++ qq))) rfl rfl (by kernel_rfl) (by kernel_rfl) (by kernel_rfl) rfl (fun _ _ _ h => h) HS0.out (.inl ⟨by rfl, fun u hu => by (obtain ⟨s0, s1, s2, s3⟩ := hu; go_simp)⟩) ?_
            try simp only [Act.put, List.setIfInBounds_toArray, List.set_cons_zero, List.set_cons_succ]
            refine anyG_takeS (i := 23) (d := some 3) (v := (.string (q1 ++ x.name ++ opT x.op ++ qq))) rfl rfl (by kernel_rfl) (by kernel_rfl) (by kernel_rfl) rfl (fun _ _ _ h => h) HS0.out (.inl ⟨rfl, fun _ _ => rfl⟩) ?_
            try simp only [Act.put, List.setIfInBounds_toArray, List.set_cons_zero, List.set_cons_succ]
            refine anyG_end (by kernel_rfl) (NoPanic.normal ?_)
            go_wp2
            go_roundg (gk - 1)
            case measure => omega
            case rel => exact ⟨i + 1, _, rfl, by go_num, by omega, by omega, Lib.hid (by rw [show decide (i + 1 = 0) = false from decide_eq_false (by omega), bys_app, bys_app, bys_app, HQQ.out, HEQ.out, ← HQ3.out]; simp [toMat]), Lib.hid ((Chg.drew (Chg.of_below (M := fun _ => False) (hbel.out.alloc hbel.out.size _))).below (fun k _ h => h))⟩
        · refine anyG_op (late := fun _ => true) (i := 21) (o := { dst := some 36, op := .call { callee := .value (.func 28), args := #[.tmp 35], argTypes := #[9] }, type := 9, pos := "ref.go:78", after := #[{ on := 20, ground := .data }], guard := none }) (by rfl) (by rfl) (fun K' hK => ?_)
          go_simp
          refine (quote_calls x.value HES.out _).mono ?_
          rintro e w4 ⟨qq, rfl, hqq, hw4⟩
          rw [hw4]
          have HQQ := Lib.hid hqq
          clear hw4 hqq
          have hq3 : ¬ (9223372036854775807 < (q1 ++ x.name ++ opT x.op).size + qq.size) := by (have h1 := HLN.out; have h2 := congrArg List.length HQQ.out; simp only [List.length_cons, bys_len] at h2; rw [ByteArray.size_append, ByteArray.size_append]; omega)
          have hq3b : ¬ (9223372036854775807 < q1.size + x.name.size + (opT x.op).size + qq.size) := by (have h1 := HLN.out; have h2 := congrArg List.length HQQ.out; simp only [List.length_cons, bys_len] at h2; omega)
          refine hK.out _ _ (HS0.out) (fun e => absurd e (by decide)) ?_
          clear hK K'
          try simp only [Act.put, List.setIfInBounds_toArray, List.set_cons_zero, List.set_cons_succ]
          refine anyG_all (rs := [7]) (by kernel_rfl) (by simp) ?_
          intro j hj
          simp only [List.mem_cons, List.not_mem_nil, or_false] at hj
          subst hj
          refine anyG_op (late := fun _ => true) (i := 7) (o := { dst := some 22, op := .buildSlice 68 4 #[(0, .const (.string ⟨#[61]⟩)), (1, .const (.string ⟨#[33, 61]⟩)), (2, .const (.string ⟨#[61, 126]⟩)), (3, .const (.string ⟨#[33, 126]⟩))], type := 68, pos := "ref.go:78", after := #[], guard := none }) (by rfl) (by rfl) (fun K' hK => ?_)
          go_simp
          refine hK.out _ _ (SeeM.of HRG.out (((Below.refl _ _).alloc (Nat.le_refl _) _).drew)) (fun e => absurd e (by decide)) ?_
          clear hK K'
          try simp only [Act.put, List.setIfInBounds_toArray, List.set_cons_zero, List.set_cons_succ]
          have HS1 := Lib.hid (show SeeM wo g (o + i * 3) x (wo.alloc (.cells #[.string ⟨#[61]⟩, .string ⟨#[33, 61]⟩, .string ⟨#[61, 126]⟩, .string ⟨#[33, 126]⟩] 9)).drew from SeeM.of HRG.out (((Below.refl _ _).alloc (Nat.le_refl _) _).drew))
          clear HS0
          have HS0 := HS1
          clear HS1
          refine anyG_takeS (i := 13) (d := some 28) (v := (.pointer (some ⟨wo.heap.size, x.op.toNat, none⟩))) rfl rfl (by kernel_rfl) (by kernel_rfl) (by kernel_rfl) rfl (fun _ _ _ h => h) HS0.out (.inl ⟨by rfl, fun u hu => by (obtain ⟨s0, s1, s2, s3⟩ := hu; go_simp)⟩) ?_
          try simp only [Act.put, List.setIfInBounds_toArray, List.set_cons_zero, List.set_cons_succ]
          refine anyG_all (rs := [14]) (by kernel_rfl) (by simp) ?_
          intro j hj
          simp only [List.mem_cons, List.not_mem_nil, or_false] at hj
          subst hj
          refine anyG_op (late := fun _ => true) (i := 14) (o := { dst := some 29, op := .load 9 (.tmp 28), type := 9, pos := "ref.go:78", after := #[{ on := 13, ground := .data }], guard := none }) (by rfl) (by rfl) (fun K' hK => ?_)
          go_simp
          refine hK.out _ _ (HS0.out) (fun e => absurd e (by decide)) ?_
          clear hK K'
          try simp only [Act.put, List.setIfInBounds_toArray, List.set_cons_zero, List.set_cons_succ]
          refine anyG_takeS (i := 15) (d := some 30) (v := (.string (q1 ++ x.name ++ opT x.op))) rfl rfl (by kernel_rfl) (by kernel_rfl) (by kernel_rfl) rfl (fun _ _ _ h => h) HS0.out (.inl ⟨by rfl, fun u hu => by (obtain ⟨s0, s1, s2, s3⟩ := hu; go_simp)⟩) ?_
          try simp only [Act.put, List.setIfInBounds_toArray, List.set_cons_zero, List.set_cons_succ]
          refine anyG_takeS (i := 22) (d := some 37) (v := (.string (q1 ++ x.name ++ opT x.op ++ qq))) rfl rfl (by kernel_rfl) (by kernel_rfl) (by kernel_rfl) rfl (fun _ _ _ h => h) HS0.out (.inl ⟨by rfl, fun u hu => by (obtain ⟨s0, s1, s2, s3⟩ := hu; go_simp)⟩) ?_
          try simp only [Act.put, List.setIfInBounds_toArray, List.set_cons_zero, List.set_cons_succ]
          refine anyG_takeS (i := 23) (d := some 3) (v := (.string (q1 ++ x.name ++ opT x.op ++ qq))) rfl rfl (by kernel_rfl) (by kernel_rfl) (by kernel_rfl) rfl (fun _ _ _ h => h) HS0.out (.inl ⟨rfl, fun _ _ => rfl⟩) ?_
          try simp only [Act.put, List.setIfInBounds_toArray, List.set_cons_zero, List.set_cons_succ]
          refine anyG_end (by kernel_rfl) (NoPanic.normal ?_)
          go_wp2
          go_roundg (gk - 1)
          case measure => omega
          case rel => exact ⟨i + 1, _, rfl, by go_num, by omega, by omega, Lib.hid (by rw [show decide (i + 1 = 0) = false from decide_eq_false (by omega), bys_app, bys_app, bys_app, HQQ.out, HEQ.out, ← HQ3.out]; simp [toMat]), Lib.hid ((Chg.drew (Chg.of_below (M := fun _ => False) (hbel.out.alloc hbel.out.size _))).below (fun k _ h => h))⟩
      · have hz : decide (0 < (i : Int)) = true := decide_eq_true (by omega)
        have hz2 : 0 < (i : Int) := by omega
        rw [show decide (i = 0) = false from decide_eq_false hi0] at HQ2
        have HQ3 : Hid (bys (q ++ ⟨#[44]⟩) ++ ((toMat x).name ++ (pre (toMat x).op.toNat ++ ((34 :: esc (toMat x).value) ++ printJ false ((l.drop (i + 1)).map toMat)))) = printAll (l.map toMat)) := Lib.hid (by rw [← HQ2.out, bys_app, List.append_assoc]; rfl)
        have hqs : q.size + 1 ≤ 4611686018427387904 := by
          have h1 := congrArg List.length HQ3.out
          have h2 := HT.out
          simp only [List.length_append, bys_app, bys_len] at h1
          have h3 : (⟨#[44]⟩ : ByteArray).size = 1 := rfl
          omega
        have hqa : ¬ (9223372036854775807 < q.size + 1) := by omega
        have hqb : ¬ (9223372036854775807 < q.size + (⟨#[44]⟩ : ByteArray).size) := hqa
        clear HQ2 hql HQ hi0
        go_wp2
        obtain ⟨q1, hq1e⟩ : ∃ q1, q ++ ⟨#[44]⟩ = q1 := ⟨_, rfl⟩
        rw [hq1e] at HQ3 ⊢
        clear hq1e hqa hqb hqs
        have hlen : q1.size + x.name.size + (opT x.op).size + ((esc (bys x.value)).length + 1) ≤ 4611686018427387904 := by
          have h1 := congrArg List.length HQ3.out
          have h2 := HT.out
          have h3 := congrArg List.length (opT_pre x.op ho0 ho4)
          simp only [List.length_append, List.length_cons, bys_len, toMat] at h1 h3
          omega
        have HLN := Lib.hid hlen
        have hes : (esc (bys x.value)).length ≤ 4611686018427387904 := by omega
        have HES := Lib.hid hes
        have hq1 : ¬ (9223372036854775807 < q1.size + x.name.size) := by omega
        have hq2 : ¬ (9223372036854775807 < (q1 ++ x.name).size + (opT x.op).size) := by rw [ByteArray.size_append]; omega
        have hq2b : ¬ (9223372036854775807 < q1.size + x.name.size + (opT x.op).size) := by omega
        have hx4 : x.op.toNat < 4 := by omega
        have HOT := Lib.hid (opT_at 9 x.op ho0 ho4)
        have HEQ := Lib.hid (opT_pre x.op ho0 ho4)
        have hot := HOT.out wo
        clear hlen hes
        refine wp_region_G (S := fun u => Below wo.heap.size wo u ∧ u.cell? ⟨g, o + i * 3, none⟩ = some (.string x.name) ∧ u.cell? ⟨g, o + i * 3 + 1, none⟩ = some (.int .i64 x.op) ∧ u.cell? ⟨g, o + i * 3 + 2, none⟩ = some (.string x.value)) (T := fun u => Below wo.heap.size wo u ∧ u.cell? ⟨g, o + i * 3, none⟩ = some (.string x.name) ∧ u.cell? ⟨g, o + i * 3 + 1, none⟩ = some (.int .i64 x.op) ∧ u.cell? ⟨g, o + i * 3 + 2, none⟩ = some (.string x.value)) (late := fun _ => true) (by kernel_rfl) ?_
        have HS0 := Lib.hid (show SeeM wo g (o + i * 3) x wo.drew from SeeM.drew HRG.out)
        refine anyG_takeS (i := 0) (d := some 15) (v := (.string q1)) rfl rfl (by kernel_rfl) (by kernel_rfl) (by kernel_rfl) rfl (fun _ _ _ h => h) HS0.out (.inl ⟨rfl, fun _ _ => rfl⟩) ?_
        try simp only [Act.put, List.setIfInBounds_toArray, List.set_cons_zero, List.set_cons_succ]
        refine anyG_takeS (i := 1) (d := some 16) (v := (.slice (some ⟨g, o, none⟩) l.length c)) rfl rfl (by kernel_rfl) (by kernel_rfl) (by kernel_rfl) rfl (fun _ _ _ h => h) HS0.out (.inl ⟨rfl, fun _ _ => rfl⟩) ?_
        try simp only [Act.put, List.setIfInBounds_toArray, List.set_cons_zero, List.set_cons_succ]
        refine anyG_takeS (i := 2) (d := some 17) (v := (.int .i64 (i : Int))) rfl rfl (by kernel_rfl) (by kernel_rfl) (by kernel_rfl) rfl (fun _ _ _ h => h) HS0.out (.inl ⟨rfl, fun _ _ => rfl⟩) ?_
        try simp only [Act.put, List.setIfInBounds_toArray, List.set_cons_zero, List.set_cons_succ]
        refine anyG_takeS (i := 3) (d := some 18) (v := (.pointer (some ⟨g, o + i * 3, none⟩))) rfl rfl (by kernel_rfl) (by kernel_rfl) (by kernel_rfl) rfl (fun _ _ _ h => h) HS0.out (.inl ⟨by rfl, fun u hu => by (obtain ⟨s0, s1, s2, s3⟩ := hu; go_simp)⟩) ?_
        try simp only [Act.put, List.setIfInBounds_toArray, List.set_cons_zero, List.set_cons_succ]
        refine anyG_takeS (i := 4) (d := some 19) (v := (.pointer (some ⟨g, o + i * 3, none⟩))) rfl rfl (by kernel_rfl) (by kernel_rfl) (by kernel_rfl) rfl (fun _ _ _ h => h) HS0.out (.inl ⟨by rfl, fun u hu => by (obtain ⟨s0, s1, s2, s3⟩ := hu; go_simp)⟩) ?_
        try simp only [Act.put, List.setIfInBounds_toArray, List.set_cons_zero, List.set_cons_succ]
        refine anyG_takeS (i := 5) (d := some 20) (v := (.string x.name)) rfl rfl (by kernel_rfl) (by kernel_rfl) (by kernel_rfl) rfl (fun _ _ _ h => h) HS0.out (.inl ⟨by rfl, fun u hu => by (obtain ⟨s0, s1, s2, s3⟩ := hu; go_simp)⟩) ?_
        try simp only [Act.put, List.setIfInBounds_toArray, List.set_cons_zero, List.set_cons_succ]
        refine anyG_takeS (i := 6) (d := some 21) (v := (.string (q1 ++ x.name))) rfl rfl (by kernel_rfl) (by kernel_rfl) (by kernel_rfl) rfl (fun _ _ _ h => h) HS0.out (.inl ⟨by rfl, fun u hu => by (obtain ⟨s0, s1, s2, s3⟩ := hu; go_simp)⟩) ?_
        try simp only [Act.put, List.setIfInBounds_toArray, List.set_cons_zero, List.set_cons_succ]
        refine anyG_takeS (i := 8) (d := some 23) (v := (.slice (some ⟨g, o, none⟩) l.length c)) rfl rfl (by kernel_rfl) (by kernel_rfl) (by kernel_rfl) rfl (fun _ _ _ h => h) HS0.out (.inl ⟨rfl, fun _ _ => rfl⟩) ?_
        try simp only [Act.put, List.setIfInBounds_toArray, List.set_cons_zero, List.set_cons_succ]
        refine anyG_takeS (i := 9) (d := some 24) (v := (.int .i64 (i : Int))) rfl rfl (by kernel_rfl) (by kernel_rfl) (by kernel_rfl) rfl (fun _ _ _ h => h) HS0.out (.inl ⟨rfl, fun _ _ => rfl⟩) ?_
        try simp only [Act.put, List.setIfInBounds_toArray, List.set_cons_zero, List.set_cons_succ]
        refine anyG_takeS (i := 10) (d := some 25) (v := (.pointer (some ⟨g, o + i * 3, none⟩))) rfl rfl (by kernel_rfl) (by kernel_rfl) (by kernel_rfl) rfl (fun _ _ _ h => h) HS0.out (.inl ⟨by rfl, fun u hu => by (obtain ⟨s0, s1, s2, s3⟩ := hu; go_simp)⟩) ?_
        try simp only [Act.put, List.setIfInBounds_toArray, List.set_cons_zero, List.set_cons_succ]
        refine anyG_takeS (i := 11) (d := some 26) (v := (.pointer (some ⟨g, o + i * 3 + 1, none⟩))) rfl rfl (by kernel_rfl) (by kernel_rfl) (by kernel_rfl) rfl (fun _ _ _ h => h) HS0.out (.inl ⟨by rfl, fun u hu => by (obtain ⟨s0, s1, s2, s3⟩ := hu; go_simp)⟩) ?_
        try simp only [Act.put, List.setIfInBounds_toArray, List.set_cons_zero, List.set_cons_succ]
        refine anyG_takeS (i := 12) (d := some 27) (v := (.int .i64 x.op)) rfl rfl (by kernel_rfl) (by kernel_rfl) (by kernel_rfl) rfl (fun _ _ _ h => h) HS0.out (.inl ⟨by rfl, fun u hu => by (obtain ⟨s0, s1, s2, s3⟩ := hu; go_simp)⟩) ?_
        try simp only [Act.put, List.setIfInBounds_toArray, List.set_cons_zero, List.set_cons_succ]
        refine anyG_takeS (i := 16) (d := some 31) (v := (.slice (some ⟨g, o, none⟩) l.length c)) rfl rfl (by kernel_rfl) (by kernel_rfl) (by kernel_rfl) rfl (fun _ _ _ h => h) HS0.out (.inl ⟨rfl, fun _ _ => rfl⟩) ?_
        try simp only [Act.put, List.setIfInBounds_toArray, List.set_cons_zero, List.set_cons_succ]
        refine anyG_takeS (i := 17) (d := some 32) (v := (.int .i64 (i : Int))) rfl rfl (by kernel_rfl) (by kernel_rfl) (by kernel_rfl) rfl (fun _ _ _ h => h) HS0.out (.inl ⟨rfl, fun _ _ => rfl⟩) ?_
        try simp only [Act.put, List.setIfInBounds_toArray, List.set_cons_zero, List.set_cons_succ]
        refine anyG_takeS (i := 18) (d := some 33) (v := (.pointer (some ⟨g, o + i * 3, none⟩))) rfl rfl (by kernel_rfl) (by kernel_rfl) (by kernel_rfl) rfl (fun _ _ _ h => h) HS0.out (.inl ⟨by rfl, fun u hu => by (obtain ⟨s0, s1, s2, s3⟩ := hu; go_simp)⟩) ?_
        try simp only [Act.put, List.setIfInBounds_toArray, List.set_cons_zero, List.set_cons_succ]
        refine anyG_takeS (i := 19) (d := some 34) (v := (.pointer (some ⟨g, o + i * 3 + 2, none⟩))) rfl rfl (by kernel_rfl) (by kernel_rfl) (by kernel_rfl) rfl (fun _ _ _ h => h) HS0.out (.inl ⟨by rfl, fun u hu => by (obtain ⟨s0, s1, s2, s3⟩ := hu; go_simp)⟩) ?_
        try simp only [Act.put, List.setIfInBounds_toArray, List.set_cons_zero, List.set_cons_succ]
        refine anyG_takeS (i := 20) (d := some 35) (v := (.string x.value)) rfl rfl (by kernel_rfl) (by kernel_rfl) (by kernel_rfl) rfl (fun _ _ _ h => h) HS0.out (.inl ⟨by rfl, fun u hu => by (obtain ⟨s0, s1, s2, s3⟩ := hu; go_simp)⟩) ?_
        try simp only [Act.put, List.setIfInBounds_toArray, List.set_cons_zero, List.set_cons_succ]
        refine anyG_all (rs := [7, 21]) (by kernel_rfl) (by simp) ?_
        intro j hj
        simp only [List.mem_cons, List.not_mem_nil, or_false] at hj
        rcases hj with rfl | rfl
        · refine anyG_op (late := fun _ => true) (i := 7) (o := { dst := some 22, op := .buildSlice 68 4 #[(0, .const (.string ⟨#[61]⟩)), (1, .const (.string ⟨#[33, 61]⟩)), (2, .const (.string ⟨#[61, 126]⟩)), (3, .const (.string ⟨#[33, 126]⟩))], type := 68, pos := "ref.go:78", after := #[], guard := none }) (by rfl) (by rfl) (fun K' hK => ?_)
          go_simp
          refine hK.out _ _ (SeeM.of HRG.out (((Below.refl _ _).alloc (Nat.le_refl _) _).drew)) (fun e => absurd e (by decide)) ?_
          clear hK K'
          try simp only [Act.put, List.setIfInBounds_toArray, List.set_cons_zero, List.set_cons_succ]
          have HS1 := Lib.hid (show SeeM wo g (o + i * 3) x (wo.alloc (.cells #[.string ⟨#[61]⟩, .string ⟨#[33, 61]⟩, .string ⟨#[61, 126]⟩, .string ⟨#[33, 126]⟩] 9)).drew from SeeM.of HRG.out (((Below.refl _ _).alloc (Nat.le_refl _) _).drew))
          clear HS0
          have HS0 := HS1
          clear HS1
          refine anyG_takeS (i := 13) (d := some 28) (v := (.pointer (some ⟨wo.heap.size, x.op.toNat, none⟩))) rfl rfl (by kernel_rfl) (by kernel_rfl) (by kernel_rfl) rfl (fun _ _ _ h => h) HS0.out (.inl ⟨by rfl, fun u hu => by (obtain ⟨s0, s1, s2, s3⟩ := hu; go_simp)⟩) ?_
          try simp only [Act.put, List.setIfInBounds_toArray, List.set_cons_zero, List.set_cons_succ]
          refine anyG_all (rs := [14, 21]) (by kernel_rfl) (by simp) ?_
          intro j hj
          simp only [List.mem_cons, List.not_mem_nil, or_false] at hj
          rcases hj with rfl | rfl
          · refine anyG_op (late := fun _ => true) (i := 14) (o := { dst := some 29, op := .load 9 (.tmp 28), type := 9, pos := "ref.go:78", after := #[{ on := 13, ground := .data }], guard := none }) (by rfl) (by rfl) (fun K' hK => ?_)
            go_simp
            refine hK.out _ _ (HS0.out) (fun e => absurd e (by decide)) ?_
            clear hK K'
            try simp only [Act.put, List.setIfInBounds_toArray, List.set_cons_zero, List.set_cons_succ]
            refine anyG_takeS (i := 15) (d := some 30) (v := (.string (q1 ++ x.name ++ opT x.op))) rfl rfl (by kernel_rfl) (by kernel_rfl) (by kernel_rfl) rfl (fun _ _ _ h => h) HS0.out (.inl ⟨by rfl, fun u hu => by (obtain ⟨s0, s1, s2, s3⟩ := hu; go_simp)⟩) ?_
            try simp only [Act.put, List.setIfInBounds_toArray, List.set_cons_zero, List.set_cons_succ]
            refine anyG_all (rs := [21]) (by kernel_rfl) (by simp) ?_
            intro j hj
            simp only [List.mem_cons, List.not_mem_nil, or_false] at hj
            subst hj
            refine anyG_op (late := fun _ => true) (i := 21) (o := { dst := some 36, op := .call { callee := .value (.func 28), args := #[.tmp 35], argTypes := #[9] }, type := 9, pos := "ref.go:78", after := #[{ on := 20, ground := .data }], guard := none }) (by rfl) (by rfl) (fun K' hK => ?_)
            go_simp
            refine (quote_calls x.value HES.out _).mono ?_
            rintro e w4 ⟨qq, rfl, hqq, hw4⟩
            rw [hw4]
            have HQQ := Lib.hid hqq
            clear hw4 hqq
            have hq3 : ¬ (9223372036854775807 < (q1 ++ x.name ++ opT x.op).size + qq.size) := by (have h1 := HLN.out; have h2 := congrArg List.length HQQ.out; simp only [List.length_cons, bys_len] at h2; rw [ByteArray.size_append, ByteArray.size_append]; omega)
            have hq3b : ¬ (9223372036854775807 < q1.size + x.name.size + (opT x.op).size + qq.size) := by (have h1 := HLN.out; have h2 := congrArg List.length HQQ.out; simp only [List.length_cons, bys_len] at h2; omega)
            refine hK.out _ _ (HS0.out) (fun e => absurd e (by decide)) ?_
            clear hK K'
            try simp only [Act.put, List.setIfInBounds_toArray, List.set_cons_zero, List.set_cons_succ]
            refine anyG_takeS (i := 22) (d := some 37) (v := (.string (q1 ++ x.name ++ opT x.op ++ qq))) rfl rfl (by kernel_rfl) (by kernel_rfl) (by kernel_rfl) rfl (fun _ _ _ h => h) HS0.out (.inl ⟨by rfl, fun u hu => by (obtain ⟨s0, s1, s2, s3⟩ := hu; go_simp)⟩) ?_
            try simp only [Act.put, List.setIfInBounds_toArray, List.set_cons_zero, List.set_cons_succ]
            refine anyG_takeS (i := 23) (d := some 3) (v := (.string (q1 ++ x.name ++ opT x.op ++ qq))) rfl rfl (by kernel_rfl) (by kernel_rfl) (by kernel_rfl) rfl (fun _ _ _ h => h) HS0.out (.inl ⟨rfl, fun _ _ => rfl⟩) ?_
            try simp only [Act.put, List.setIfInBounds_toArray, List.set_cons_zero, List.set_cons_succ]
            refine anyG_end (by kernel_rfl) (NoPanic.normal ?_)
            go_wp2
            go_roundg (gk - 1)
            case measure => omega
            case rel => exact ⟨i + 1, _, rfl, by go_num, by omega, by omega, Lib.hid (by rw [show decide (i + 1 = 0) = false from decide_eq_false (by omega), bys_app, bys_app, bys_app, HQQ.out, HEQ.out, ← HQ3.out]; simp [toMat]), Lib.hid ((Chg.drew (Chg.of_below (M := fun _ => False) (hbel.out.alloc hbel.out.size _))).below (fun k _ h => h))⟩
          · refine anyG_op (late := fun _ => true) (i := 21) (o := { dst := some 36, op := .call { callee := .value (.func 28), args := #[.tmp 35], argTypes := #[9] }, type := 9, pos := "ref.go:78", after := #[{ on := 20, ground := .data }], guard := none }) (by rfl) (by rfl) (fun K' hK => ?_)
            go_simp
            refine (quote_calls x.value HES.out _).mono ?_
            rintro e w4 ⟨qq, rfl, hqq, hw4⟩
            rw [hw4]
            have HQQ := Lib.hid hqq
            clear hw4 hqq
            have hq3 : ¬ (9223372036854775807 < (q1 ++ x.name ++ opT x.op).size + qq.size) := by (have h1 := HLN.out; have h2 := congrArg List.length HQQ.out; simp only [List.length_cons, bys_len] at h2; rw [ByteArray.size_append, ByteArray.size_append]; omega)
            have hq3b : ¬ (9223372036854775807 < q1.size + x.name.size + (opT x.op).size + qq.size) := by (have h1 := HLN.out; have h2 := congrArg List.length HQQ.out; simp only [List.length_cons, bys_len] at h2; omega)
            refine hK.out _ _ (HS0.out) (fun e => absurd e (by decide)) ?_
            clear hK K'
            try simp only [Act.put, List.setIfInBounds_toArray, List.set_cons_zero, List.set_cons_succ]
            refine anyG_all (rs := [14]) (by kernel_rfl) (by simp) ?_
            intro j hj
            simp only [List.mem_cons, List.not_mem_nil, or_false] at hj
            subst hj
            refine anyG_op (late := fun _ => true) (i := 14) (o := { dst := some 29, op := .load 9 (.tmp 28), type := 9, pos := "ref.go:78", after := #[{ on := 13, ground := .data }], guard := none }) (by rfl) (by rfl) (fun K' hK => ?_)
            go_simp
            refine hK.out _ _ (HS0.out) (fun e => absurd e (by decide)) ?_
            clear hK K'
            try simp only [Act.put, List.setIfInBounds_toArray, List.set_cons_zero, List.set_cons_succ]
            refine anyG_takeS (i := 15) (d := some 30) (v := (.string (q1 ++ x.name ++ opT x.op))) rfl rfl (by kernel_rfl) (by kernel_rfl) (by kernel_rfl) rfl (fun _ _ _ h => h) HS0.out (.inl ⟨by rfl, fun u hu => by (obtain ⟨s0, s1, s2, s3⟩ := hu; go_simp)⟩) ?_
            try simp only [Act.put, List.setIfInBounds_toArray, List.set_cons_zero, List.set_cons_succ]
            refine anyG_takeS (i := 22) (d := some 37) (v := (.string (q1 ++ x.name ++ opT x.op ++ qq))) rfl rfl (by kernel_rfl) (by kernel_rfl) (by kernel_rfl) rfl (fun _ _ _ h => h) HS0.out (.inl ⟨by rfl, fun u hu => by (obtain ⟨s0, s1, s2, s3⟩ := hu; go_simp)⟩) ?_
            try simp only [Act.put, List.setIfInBounds_toArray, List.set_cons_zero, List.set_cons_succ]
            refine anyG_takeS (i := 23) (d := some 3) (v := (.string (q1 ++ x.name ++ opT x.op ++ qq))) rfl rfl (by kernel_rfl) (by kernel_rfl) (by kernel_rfl) rfl (fun _ _ _ h => h) HS0.out (.inl ⟨rfl, fun _ _ => rfl⟩) ?_
            try simp only [Act.put, List.setIfInBounds_toArray, List.set_cons_zero, List.set_cons_succ]
            refine anyG_end (by kernel_rfl) (NoPanic.normal ?_)
            go_wp2
            go_roundg (gk - 1)
            case measure => omega
            case rel => exact ⟨i + 1, _, rfl, by go_num, by omega, by omega, Lib.hid (by rw [show decide (i + 1 = 0) = false from decide_eq_false (by omega), bys_app, bys_app, bys_app, HQQ.out, HEQ.out, ← HQ3.out]; simp [toMat]), Lib.hid ((Chg.drew (Chg.of_below (M := fun _ => False) (hbel.out.alloc hbel.out.size _))).below (fun k _ h => h))⟩
        · refine anyG_op (late := fun _ => true) (i := 21) (o := { dst := some 36, op := .call { callee := .value (.func 28), args := #[.tmp 35], argTypes := #[9] }, type := 9, pos := "ref.go:78", after := #[{ on := 20, ground := .data }], guard := none }) (by rfl) (by rfl) (fun K' hK => ?_)
          go_simp
          refine (quote_calls x.value HES.out _).mono ?_
          rintro e w4 ⟨qq, rfl, hqq, hw4⟩
          rw [hw4]
          have HQQ := Lib.hid hqq
          clear hw4 hqq
          have hq3 : ¬ (9223372036854775807 < (q1 ++ x.name ++ opT x.op).size + qq.size) := by (have h1 := HLN.out; have h2 := congrArg List.length HQQ.out; simp only [List.length_cons, bys_len] at h2; rw [ByteArray.size_append, ByteArray.size_append]; omega)
          have hq3b : ¬ (9223372036854775807 < q1.size + x.name.size + (opT x.op).size + qq.size) := by (have h1 := HLN.out; have h2 := congrArg List.length HQQ.out; simp only [List.length_cons, bys_len] at h2; omega)
          refine hK.out _ _ (HS0.out) (fun e => absurd e (by decide)) ?_
          clear hK K'
          try simp only [Act.put, List.setIfInBounds_toArray, List.set_cons_zero, List.set_cons_succ]
          refine anyG_all (rs := [7]) (by kernel_rfl) (by simp) ?_
          intro j hj
          simp only [List.mem_cons, List.not_mem_nil, or_false] at hj
          subst hj
          refine anyG_op (late := fun _ => true) (i := 7) (o := { dst := some 22, op := .buildSlice 68 4 #[(0, .const (.string ⟨#[61]⟩)), (1, .const (.string ⟨#[33, 61]⟩)), (2, .const (.string ⟨#[61, 126]⟩)), (3, .const (.string ⟨#[33, 126]⟩))], type := 68, pos := "ref.go:78", after := #[], guard := none }) (by rfl) (by rfl) (fun K' hK => ?_)
          go_simp
          refine hK.out _ _ (SeeM.of HRG.out (((Below.refl _ _).alloc (Nat.le_refl _) _).drew)) (fun e => absurd e (by decide)) ?_
          clear hK K'
          try simp only [Act.put, List.setIfInBounds_toArray, List.set_cons_zero, List.set_cons_succ]
          have HS1 := Lib.hid (show SeeM wo g (o + i * 3) x (wo.alloc (.cells #[.string ⟨#[61]⟩, .string ⟨#[33, 61]⟩, .string ⟨#[61, 126]⟩, .string ⟨#[33, 126]⟩] 9)).drew from SeeM.of HRG.out (((Below.refl _ _).alloc (Nat.le_refl _) _).drew))
          clear HS0
          have HS0 := HS1
          clear HS1
          refine anyG_takeS (i := 13) (d := some 28) (v := (.pointer (some ⟨wo.heap.size, x.op.toNat, none⟩))) rfl rfl (by kernel_rfl) (by kernel_rfl) (by kernel_rfl) rfl (fun _ _ _ h => h) HS0.out (.inl ⟨by rfl, fun u hu => by (obtain ⟨s0, s1, s2, s3⟩ := hu; go_simp)⟩) ?_
          try simp only [Act.put, List.setIfInBounds_toArray, List.set_cons_zero, List.set_cons_succ]
          refine anyG_all (rs := [14]) (by kernel_rfl) (by simp) ?_
          intro j hj
          simp only [List.mem_cons, List.not_mem_nil, or_false] at hj
          subst hj
          refine anyG_op (late := fun _ => true) (i := 14) (o := { dst := some 29, op := .load 9 (.tmp 28), type := 9, pos := "ref.go:78", after := #[{ on := 13, ground := .data }], guard := none }) (by rfl) (by rfl) (fun K' hK => ?_)
          go_simp
          refine hK.out _ _ (HS0.out) (fun e => absurd e (by decide)) ?_
          clear hK K'
          try simp only [Act.put, List.setIfInBounds_toArray, List.set_cons_zero, List.set_cons_succ]
          refine anyG_takeS (i := 15) (d := some 30) (v := (.string (q1 ++ x.name ++ opT x.op))) rfl rfl (by kernel_rfl) (by kernel_rfl) (by kernel_rfl) rfl (fun _ _ _ h => h) HS0.out (.inl ⟨by rfl, fun u hu => by (obtain ⟨s0, s1, s2, s3⟩ := hu; go_simp)⟩) ?_
          try simp only [Act.put, List.setIfInBounds_toArray, List.set_cons_zero, List.set_cons_succ]
          refine anyG_takeS (i := 22) (d := some 37) (v := (.string (q1 ++ x.name ++ opT x.op ++ qq))) rfl rfl (by kernel_rfl) (by kernel_rfl) (by kernel_rfl) rfl (fun _ _ _ h => h) HS0.out (.inl ⟨by rfl, fun u hu => by (obtain ⟨s0, s1, s2, s3⟩ := hu; go_simp)⟩) ?_
          try simp only [Act.put, List.setIfInBounds_toArray, List.set_cons_zero, List.set_cons_succ]
          refine anyG_takeS (i := 23) (d := some 3) (v := (.string (q1 ++ x.name ++ opT x.op ++ qq))) rfl rfl (by kernel_rfl) (by kernel_rfl) (by kernel_rfl) rfl (fun _ _ _ h => h) HS0.out (.inl ⟨rfl, fun _ _ => rfl⟩) ?_
          try simp only [Act.put, List.setIfInBounds_toArray, List.set_cons_zero, List.set_cons_succ]
          refine anyG_end (by kernel_rfl) (NoPanic.normal ?_)
          go_wp2
          go_roundg (gk - 1)
          case measure => omega
          case rel => exact ⟨i + 1, _, rfl, by go_num, by omega, by omega, Lib.hid (by rw [show decide (i + 1 = 0) = false from decide_eq_false (by omega), bys_app, bys_app, bys_app, HQQ.out, HEQ.out, ← HQ3.out]; simp [toMat]), Lib.hid ((Chg.drew (Chg.of_below (M := fun _ => False) (hbel.out.alloc hbel.out.size _))).below (fun k _ h => h))⟩
    · have hc1 : decide (i < l.length) = false := decide_eq_false hi
      obtain rfl : i = l.length := by omega
      have hdn : l.drop l.length = [] := List.drop_eq_nil_of_le (Nat.le_refl _)
      have HI : Hid (bys (q ++ ⟨#[125]⟩) = printAll (l.map toMat)) := Lib.hid (by
        rw [bys_app, ← HQ.out, hdn]; cases decide (l.length = 0) <;> rfl)
      have hqs : q.size + 1 ≤ 4611686018427387904 := by
        have h1 := congrArg List.length HI.out
        have h2 := HT.out
        simp only [List.length_append, bys_app, bys_len] at h1
        have h3 : (⟨#[125]⟩ : ByteArray).size = 1 := rfl
        omega
      have hqa : ¬ (9223372036854775807 < q.size + 1) := by omega
      have hqb : ¬ (9223372036854775807 < q.size + (⟨#[125]⟩ : ByteArray).size) := hqa
      clear hql hqs hdn
      go_wp2
      go_ret
      exact ⟨_, rfl, HI.out, hbel.out⟩
end Go.Proofs.YtmlmnckhiianhaaDoor
