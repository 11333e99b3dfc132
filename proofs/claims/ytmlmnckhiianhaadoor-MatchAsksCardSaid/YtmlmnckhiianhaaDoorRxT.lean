/- Parse and Match, as what a pattern means; awake, walked. -/
import Derived.Test.YtmlmnckhiianhaaDoorRxS
namespace Go.Proofs.YtmlmnckhiianhaaDoor
set_option maxRecDepth 100000
open Go.RowKit Rx
set_option linter.unusedVariables false
set_option linter.unusedSimpArgs false

/-- Whether a text is one of a pattern's. -/
noncomputable def mt (x : Rx) (u : List Nat) : Bool := @decide (L x u) (Classical.propDecidable _)
theorem mt_iff {x : Rx} {u : List Nat} : mt x u = true ↔ L x u := by unfold mt; exact @decide_eq_true_iff _ (Classical.propDecidable _)
theorem mt_true {x : Rx} {u : List Nat} (h : L x u) : mt x u = true := mt_iff.2 h
theorem mt_false {x : Rx} {u : List Nat} (h : ¬ L x u) : mt x u = false := by
  cases hm : mt x u with
  | false => rfl
  | true => exact absurd (mt_iff.1 hm) h

theorem Parse_new (s : ByteArray) (x : Rx) (h : Rx.parse (bys s) = .ok x) (w : World) :
    Calls Tryd.prog 23 #[.string s] w fun e w' => ∃ v, e = .returned (.tuple #[.agg #[v], .int .i64 0]) ∧ RegV w' (fun k => w.heap.size ≤ k) v x.table ∧ Below w.heap.size w w' :=
  (Parse_calls s w).mono fun e w' hp => by
    unfold ParseRes at hp
    rw [h] at hp
    obtain ⟨h1, v, h2, h3⟩ := hp
    exact ⟨v, h2, h3, h1⟩
theorem Parse_ok (s : ByteArray) (x : Rx) (h : Rx.parse (bys s) = .ok x) (w : World) :
    Calls Tryd.prog 23 #[.string s] w fun e w' => ∃ v, e = .returned (.tuple #[.agg #[v], .int .i64 0]) ∧ RegV w' (fun _ => True) v x.table ∧ Below w.heap.size w w' :=
  (Parse_new s x h w).mono fun e w' hp => by
    obtain ⟨v, h2, h3, h1⟩ := hp
    exact ⟨v, h2, h3.frame fun k _ _ => ⟨rfl, trivial⟩, h1⟩
theorem Parse_bad (s : ByteArray) (er : Nat) (h : Rx.parse (bys s) = .error er) (w : World) :
    Calls Tryd.prog 23 #[.string s] w fun e w' => e = .returned (.tuple #[.agg #[.slice none 0 0], .int .i64 er]) ∧ er ≠ 0 ∧ Below w.heap.size w w' :=
  (Parse_calls s w).mono fun e w' hp => by
    unfold ParseRes at hp
    rw [h] at hp
    exact ⟨hp.2.1, hp.2.2, hp.1⟩

theorem Match_ok (x : Rx) (hx : sz x ≤ 90000) (v : Value) (s : ByteArray) (hs : s.size ≤ 1000000000) (w : World) (hv : RegV w (fun _ => True) v x.table) :
    Calls Tryd.prog 40 #[.agg #[v], .string s] w fun e w' => e = .returned (.bool (mt x (bys s))) ∧ Below w.heap.size w w' :=
  (Match_calls x.table (table_WF x (by omega)) (table_eat x (by omega)) (by rw [table_len]; omega) (by rw [table_len]; have := wt_sz x; omega) v s w hs hv).mono fun e w' ⟨⟨b, h1, h2⟩, h3⟩ => by
    rw [table_run] at h2
    refine ⟨?_, h3⟩
    rw [h1]
    congr 2
    cases b with
    | true => exact (mt_true (h2.1 rfl)).symm
    | false => exact (mt_false (fun hL => by cases h2.2 hL)).symm
theorem Below.grown0 {w w' : World} (h : Below w.heap.size w w') (hc : True) : True := trivial

def awakeRx : Rx := .either [.row [.byte (fun x => x == 97), .star (.either [.row [.byte (fun x => x == 98)], .row [.byte (fun x => x == 99)]])]]
theorem awake_parse : Rx.parse (bys { data := #[97, 40, 98, 124, 99, 41, 42] }) = .ok awakeRx := rfl
theorem L_bc {P : Nat → Bool} {u : List Nat} (h : Star (fun a => ∃ c, a = [c] ∧ P c = true) u) : ∀ c, c ∈ u → P c = true := by
  induction h with
  | nil => intro c h; simp at h
  | cons h1 _ ih =>
    obtain ⟨d, rfl, hd⟩ := h1
    intro c hc
    simp at hc
    rcases hc with rfl | hc
    · exact hd
    · exact ih c hc
theorem awake_yes : L awakeRx (bys { data := #[97, 98, 99, 98] }) := by
  show L awakeRx [97, 98, 99, 98]
  simp only [awakeRx, L, LAny, LRow, or_false]
  refine ⟨[97], [98, 99, 98], rfl, ⟨97, rfl, rfl⟩, [98, 99, 98], [], rfl, ?_, rfl⟩
  exact .cons (a := [98]) (.inl ⟨[98], [], rfl, ⟨98, rfl, rfl⟩, rfl⟩) (.cons (a := [99]) (.inr ⟨[99], [], rfl, ⟨99, rfl, rfl⟩, rfl⟩) (.cons (a := [98]) (b := []) (.inl ⟨[98], [], rfl, ⟨98, rfl, rfl⟩, rfl⟩) .nil))
theorem Star.imp {P Q : List Nat → Prop} (h : ∀ u, P u → Q u) {u : List Nat} (hs : Star P u) : Star Q u := by
  induction hs with
  | nil => exact .nil
  | cons h1 _ ih => exact .cons (h _ h1) ih
theorem awake_no : ¬ L awakeRx (bys { data := #[97, 98, 100] }) := by
  show ¬ L awakeRx [97, 98, 100]
  simp only [awakeRx, L, LAny, LRow, or_false]
  rintro ⟨a, b, h1, ⟨c, rfl, hc⟩, a2, b2, h2, hs, rfl⟩
  have hs2 := L_bc (P := fun x => x == 98 || x == 99) (hs.imp (fun u hu => by
    rcases hu with ⟨a, b, rfl, ⟨c, rfl, hc⟩, rfl⟩ | ⟨a, b, rfl, ⟨c, rfl, hc⟩, rfl⟩
    · exact ⟨c, rfl, by simp at hc ⊢; exact .inl hc⟩
    · exact ⟨c, rfl, by simp at hc ⊢; exact .inr hc⟩))
  simp at h1 h2
  have := hs2 100 (by rw [← h2, ← h1.2]; simp)
  simp at this

end Go.Proofs.YtmlmnckhiianhaaDoor
