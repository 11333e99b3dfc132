/- A statement that draws its order, whose last operations store to cells that it reads first: the loads may be taken first all the same, as those operations wait for them. No program in sight. -/
import Derived.OrdersHeld
import Derived.Deep.RegionHeld3
namespace Go.Proofs.YtmlmnckhiianhaaDoor
open Go

section
variable {P : Program} {ops : Array Oper} {Q : Exit → Act → World → Prop} {S T : World → Prop} {late : Nat → Bool}
/-- Whatever comes up next; S holds behind each operation, T behind each that isn't a late one. -/
def anyG (P : Program) (ops : Array Oper) (Q : Exit → Act → World → Prop) (S T : World → Prop) (late : Nat → Bool) : Nat → Array Bool → Act → World → Prop
  | 0, listed, a, w => Region.ready .any ops listed = [] ∧ Q .normal a w
  | n + 1, listed, a, w => (Region.ready .any ops listed = [] → Q .normal a w) ∧
      ∀ i ∈ Region.ready .any ops listed, wpOp P ops Q i (fun b u => (S u ∧ (late i = false → T u)) ∧ anyG P ops Q S T late n (listed.setIfInBounds i true) b u) a w
theorem anyG_any : ∀ (n : Nat) (listed : Array Bool) (a : Act) (w : World), anyG P ops Q S T late n listed a w → wpAny P .any ops Q n listed a w
  | 0, _, _, _, h => h
  | n + 1, _, _, _, h => ⟨h.1, fun i hi => wpOp_mono (fun _ _ k => anyG_any n _ _ _ k.2) (h.2 i hi)⟩
theorem anyG_first {U : World → Prop} {i : Nat} {o : Oper} {v : Value} (hi : ops[i]? = some o) (hsel : ∀ (j : Nat) (o : Oper) cs b, ops[j]? = some o → o.op ≠ .select cs b)
    (hQ : ∀ c a w, Q (.panic c) (a.put o.dst v) w → Q (.panic c) a w) (hUS : ∀ u, U u → S u) (hUT : late i = false → ∀ u, U u → T u) :
    ∀ (n : Nat) (listed : Array Bool) (a : Act) (w : World),
      (∀ j p, ops[j]? = some p → j ≠ i → listed.getD j true = false → (∀ e ∈ p.after, Region.binds .any e = true → e.on ≠ i) → o.apart ops p = true ∧ ∀ u, S u → (late j = false → T u) → U u) →
      i ∈ Region.ready .any ops listed → YieldsIf P ops U o v a → U w →
      anyG P ops Q S T late n (listed.setIfInBounds i true) (a.put o.dst v) w → anyG P ops Q S T late (n + 1) listed a w := by
  intro n
  induction n with
  | zero =>
    intro listed a w _ hr hy hw H
    refine ⟨fun h => (by rw [h] at hr; cases hr), fun j hj => ?_⟩
    by_cases e : j = i
    · subst e; exact hy.wpOp hi hw ⟨⟨hUS w hw, fun h => hUT h w hw⟩, H⟩
    · have := ready_mono hj e
      rw [H.1] at this
      cases this
  | succ n ih =>
    intro listed a w hf hr hy hw H
    refine ⟨fun h => (by rw [h] at hr; cases hr), fun j hj => ?_⟩
    by_cases e : j = i
    · subst e; exact hy.wpOp hi hw ⟨⟨hUS w hw, fun h => hUT h w hw⟩, H⟩
    · obtain ⟨hjl, p, hp, hall⟩ := mem_ready.1 hj
      have hno : ∀ q ∈ p.after, Region.binds .any q = true → q.on ≠ i := fun q hq hb heq => by
        have h1 := hall q hq hb
        have h0 := (mem_ready.1 hr).1
        rw [heq] at h1
        rcases Nat.lt_or_ge i listed.size with h' | h'
        · simp [h'] at h0 h1; rw [h0] at h1; cases h1
        · simp [Array.getElem?_eq_none h'] at h1
      have hpj := hf j p hp e hjl hno
      have h2 := wpOp_putIf hp hpj.1 (fun cs b => hsel i o cs b hi) (fun cs b => hsel j p cs b hp) hQ hy (H.2 j (ready_mono hj e))
      have hf' : ∀ k r, ops[k]? = some r → k ≠ i → (listed.setIfInBounds j true).getD k true = false → (∀ q ∈ r.after, Region.binds .any q = true → q.on ≠ i) → o.apart ops r = true ∧ ∀ u, S u → (late k = false → T u) → U u := fun k r hk hki hl hn => by
        refine hf k r hk hki ?_ hn
        by_cases hjk : j = k
        · subst hjk; exact hjl
        · rw [getD_set_ne true hjk] at hl; exact hl
      refine wpOp_mono (fun b u h3 => ⟨h3.2.1, ih (listed.setIfInBounds j true) b u hf' (ready_mono hr (Ne.symm e)) h3.1 (hpj.2 u h3.2.1.1 h3.2.1.2) ?_⟩) h2
      rw [Array.setIfInBounds_comm _ _ e]
      exact h3.2.2
/-- Every late operation that hasn't come up waits for number i. -/
def lateWait (ops : Array Oper) (late : Nat → Bool) (listed : Array Bool) (i : Nat) : Bool :=
  (List.range ops.size).all fun j => j == i || listed.getD j true || !late j || match ops[j]? with
    | some p => p.after.any fun e => Region.binds .any e && e.on == i
    | none => true
theorem lateWait_spec {listed : Array Bool} {i j : Nat} {p : Oper} (h : lateWait ops late listed i = true) (hj : ops[j]? = some p) (hne : j ≠ i) (hun : listed.getD j true = false)
    (hno : ∀ e ∈ p.after, Region.binds .any e = true → e.on ≠ i) : late j = false := by
  unfold lateWait at h
  rw [List.all_eq_true] at h
  have h1 := h j (List.mem_range.2 (Array.getElem?_eq_some_iff.1 hj).1)
  simp only [hj, Bool.or_eq_true, beq_iff_eq, hne, false_or, hun, Bool.false_eq_true, Bool.not_eq_true'] at h1
  rcases h1 with h1 | h1
  · exact h1
  · obtain ⟨e, he, hb⟩ := Array.any_eq_true'.1 h1
    simp only [Bool.and_eq_true, beq_iff_eq] at hb
    exact absurd hb.2 (hno e he hb.1)
/-- One that yields wherever S holds. -/
theorem anyG_takeS {i : Nat} {o : Oper} {d : Option Nat} {v : Value} {n : Nat} {listed : Array Bool} {a : Act} {w : World} (hi : ops[i]? = some o) (hd : o.dst = d)
    (hs : Region.noSelect ops = true) (hf : Region.free .any ops listed i = true) (hr : (Region.ready .any ops listed).contains i = true) (hl : late i = true)
    (hQ : ∀ c a w, Q (.panic c) (a.put d v) w → Q (.panic c) a w) (hS : S w) (hy : YieldsIf P ops S o v a)
    (h : anyG P ops Q S T late n (listed.setIfInBounds i true) (a.put d v) w) : anyG P ops Q S T late (n + 1) listed a w :=
  by subst hd; exact anyG_first (U := S) hi (Region.noSelect_spec hs) hQ (fun _ h => h) (fun e => by rw [hl] at e; cases e) n listed a w (fun j p hj hne hun hno => ⟨Region.free_spec hi hf j p hj hne hun hno, fun _ h _ => h⟩) (by simpa using hr) hy hS h
/-- One that yields wherever T holds. -/
theorem anyG_takeT {i : Nat} {o : Oper} {d : Option Nat} {v : Value} {n : Nat} {listed : Array Bool} {a : Act} {w : World} (hi : ops[i]? = some o) (hd : o.dst = d)
    (hs : Region.noSelect ops = true) (hf : Region.free .any ops listed i = true) (hr : (Region.ready .any ops listed).contains i = true) (hl : lateWait ops late listed i = true)
    (hQ : ∀ c a w, Q (.panic c) (a.put d v) w → Q (.panic c) a w) (hTS : ∀ u, T u → S u) (hT : T w) (hy : YieldsIf P ops T o v a)
    (h : anyG P ops Q S T late n (listed.setIfInBounds i true) (a.put d v) w) : anyG P ops Q S T late (n + 1) listed a w :=
  by subst hd; exact anyG_first (U := T) hi (Region.noSelect_spec hs) hQ hTS (fun _ _ h => h) n listed a w (fun j p hj hne hun hno => ⟨Region.free_spec hi hf j p hj hne hun hno, fun u _ h => h (lateWait_spec hl hj hne hun hno)⟩) (by simpa using hr) hy hT h
theorem anyG_all {rs : List Nat} {n : Nat} {listed : Array Bool} {a : Act} {w : World} (hr : Region.ready .any ops listed = rs) (hne : rs ≠ [])
    (h : ∀ i ∈ rs, wpOp P ops Q i (fun b u => (S u ∧ (late i = false → T u)) ∧ anyG P ops Q S T late n (listed.setIfInBounds i true) b u) a w) : anyG P ops Q S T late (n + 1) listed a w :=
  ⟨fun h0 => absurd (hr ▸ h0) hne, hr ▸ h⟩
/-- The one that comes up next, carried out: what holds behind it, then the rest. -/
theorem anyG_op {i : Nat} {o : Oper} {n : Nat} {listed : Array Bool} {a : Act} {w : World} (hi : ops[i]? = some o) (hg : o.guard = none)
    (h : ∀ K' : Act → World → Prop, Shut (∀ b u, S u → (late i = false → T u) → anyG P ops Q S T late n (listed.setIfInBounds i true) b u → K' b u) → Oper.wp P o a w K' Q) :
    wpOp P ops Q i (fun b u => (S u ∧ (late i = false → T u)) ∧ anyG P ops Q S T late n (listed.setIfInBounds i true) b u) a w :=
  wpOp_step hi fun K' hK => by
    rw [if_pos (show Region.wanted o (yielded ops a.tmps) = true by unfold Region.wanted; rw [hg])]
    exact h K' (fun b u h1 h2 h3 => hK b u ⟨⟨h1, h2⟩, h3⟩)
theorem anyG_end {n : Nat} {listed : Array Bool} {a : Act} {w : World} (hr : Region.ready .any ops listed = []) (h : Q .normal a w) : anyG P ops Q S T late n listed a w := by
  cases n with
  | zero => exact ⟨hr, h⟩
  | succ n => exact ⟨fun _ => h, by rw [hr]; simp⟩
theorem wp_region_G {id : Nat} {a : Act} {w : World} (hm : P.follows .mixedOrders = true) (h : anyG P ops (NoPanic Q) S T late ops.size (Array.replicate ops.size false) a w.drew) : (Code.region id ops true).wp P Q a w :=
  wp_region_noPanic (wp_region_any hm (anyG_any _ _ _ _ h))
end
end Go.Proofs.YtmlmnckhiianhaaDoor
