/- Runs of an automaton; no Go in sight. -/
import Derived.Test.YtmlmnckhiianhaaDoorRxL
namespace Go.Proofs.YtmlmnckhiianhaaDoor

/-- From state i, over a text, to state j. -/
inductive Run (l : List St) : Nat → List Nat → Nat → Prop
  | nil (i : Nat) : Run l i [] i
  | eps {i m j : Nat} {u : List Nat} {st : St} (h : l[i]? = some st) (he : st.eat = false) (hm : m ∈ st.next) (hr : Run l m u j) : Run l i u j
  | eat {i m j c : Nat} {u ms : List Nat} {st : St} (h : l[i]? = some st) (he : st.eat = true) (hc : st.set c = true) (hm : st.next = m :: ms) (hr : Run l m u j) : Run l i (c :: u) j

theorem Run.append {l : List St} {i j k : Nat} {u v : List Nat} (h : Run l i u j) (h2 : Run l j v k) : Run l i (u ++ v) k := by
  induction h with
  | nil i => exact h2
  | eps h he hm hr ih => exact .eps h he hm (ih h2)
  | eat h he hc hm hr ih => exact .eat h he hc hm (ih h2)
/-- The states without a byte behind a state. -/
def epsOf (l : List St) (k : Nat) : List Nat :=
  match l[k]? with
  | none => []
  | some st => if st.eat = true then [] else st.next
theorem Run.step {l : List St} {i k m : Nat} (h : Run l i [] k) (hm : m ∈ epsOf l k) : Run l i [] m := by
  have : Run l k [] m := by
    unfold epsOf at hm
    split at hm
    · simp at hm
    · rename_i st hst
      split at hm
      · simp at hm
      · rename_i he
        exact .eps hst (by simpa using he) hm (.nil m)
  exact Run.append h this
/-- A set of states that is closed has all that is reached from it. -/
theorem Run.closed {l : List St} {i k : Nat} {P : Nat → Prop} (h : Run l i [] k) (hi : P i) (hc : ∀ a, P a → ∀ m, m ∈ epsOf l a → P m) : P k := by
  generalize hu : ([] : List Nat) = u at h
  induction h with
  | nil i => exact hi
  | eps h he hm hr ih => exact ih (hc _ hi _ (by unfold epsOf; rw [h]; simp [he, hm])) hu
  | eat h he hc hm hr ih => cases hu
/-- The last byte of a run. -/
theorem Run.snoc {l : List St} {i k c : Nat} {u : List Nat} (h : Run l i (u ++ [c]) k) : ∃ a st m ms, Run l i u a ∧ l[a]? = some st ∧ st.eat = true ∧ st.set c = true ∧ st.next = m :: ms ∧ Run l m [] k := by
  generalize hw : u ++ [c] = w at h
  induction h generalizing u with
  | nil i => simp at hw
  | eps h he hm hr ih =>
    obtain ⟨a, st, m, ms, h1, h2⟩ := ih hw
    exact ⟨a, st, m, ms, .eps h he hm h1, h2⟩
  | eat h he hc hm hr ih =>
    cases u with
    | nil =>
      simp at hw
      obtain ⟨rfl, rfl⟩ := hw
      exact ⟨_, _, _, _, .nil _, h, he, hc, hm, hr⟩
    | cons d u =>
      simp at hw
      obtain ⟨rfl, hw⟩ := hw
      obtain ⟨a, st, m, ms, h1, h2⟩ := ih hw
      exact ⟨a, st, m, ms, .eat h he hc hm h1, h2⟩

/-- How many states are not in a set. -/
def cf (bs : List Bool) : Nat := bs.countP (fun b => !b)
theorem cf_mono : ∀ {bs bs' : List Bool}, bs'.length = bs.length → (∀ k : Nat, bs[k]? = some true → bs'[k]? = some true) → cf bs' ≤ cf bs
  | [], [], _, _ => Nat.le_refl _
  | b :: bs, b' :: bs', hl, h => by
    have ih := cf_mono (bs := bs) (bs' := bs') (by simpa using hl) (fun k hk => by simpa using h (k + 1) (by simpa using hk))
    have h0 := h 0
    simp only [List.getElem?_cons_zero, Option.some.injEq] at h0
    unfold cf at *
    cases b <;> cases b' <;> simp_all <;> omega
theorem cf_set : ∀ {bs : List Bool} {i : Nat}, bs[i]? = some false → cf (bs.set i true) + 1 = cf bs
  | b :: bs, 0, h => by
    simp at h
    subst h
    simp [cf]
  | b :: bs, i + 1, h => by
    have ih := cf_set (bs := bs) (i := i) (by simpa using h)
    unfold cf at *
    cases b <;> simp_all <;> omega

/-- What reach does to a set of states. -/
def ReachR (l : List St) (bs : List Bool) (i : Nat) (bs' : List Bool) : Prop :=
  bs'.length = bs.length ∧ (∀ k : Nat, bs[k]? = some true → bs'[k]? = some true) ∧ bs'[i]? = some true ∧
  ∀ k : Nat, bs'[k]? = some true → bs[k]? ≠ some true → Run l i [] k ∧ ∀ m, m ∈ epsOf l k → bs'[m]? = some true
/-- Every state that is named is one. -/
def WF (l : List St) : Prop := ∀ (k : Nat) (st : St), l[k]? = some st → st.next.length ≤ 100000 ∧ ∀ m, m ∈ st.next → m < l.length
end Go.Proofs.YtmlmnckhiianhaaDoor
