/- What an automaton that was laid for a pattern accepts is what the pattern means; no Go in sight. -/
import Derived.Test.YtmlmnckhiianhaaDoorRxN
namespace Go.Proofs.YtmlmnckhiianhaaDoor

/-- As often as one likes. -/
inductive Star (P : List Nat → Prop) : List Nat → Prop
  | nil : Star P []
  | cons {a b : List Nat} : P a → Star P b → Star P (a ++ b)
namespace Rx
mutual
/-- The texts that a pattern means. -/
def L : Rx → List Nat → Prop
  | .byte p, u => ∃ c, u = [c] ∧ p c = true
  | .row l, u => LRow l u
  | .either l, u => LAny l u
  | .star r, u => Star (L r) u
  | .plus r, u => ∃ a b, u = a ++ b ∧ L r a ∧ Star (L r) b
  | .maybe r, u => u = [] ∨ L r u
def LRow : List Rx → List Nat → Prop
  | [], u => u = []
  | x :: l, u => ∃ a b, u = a ++ b ∧ L x a ∧ LRow l b
def LAny : List Rx → List Nat → Prop
  | [], _ => False
  | x :: l, u => L x u ∨ LAny l u
end
end Rx

/-- A run to the end, with its steps. -/
inductive Acc (l : List St) : Nat → List Nat → Nat → Prop
  | done : Acc l 0 [] 0
  | eps {i m n : Nat} {u : List Nat} {st : St} (h : l[i]? = some st) (he : st.eat = false) (hm : m ∈ st.next) (hr : Acc l m u n) : Acc l i u (n + 1)
  | eat {i m c n : Nat} {u ms : List Nat} {st : St} (h : l[i]? = some st) (he : st.eat = true) (hc : st.set c = true) (hm : st.next = m :: ms) (hr : Acc l m u n) : Acc l i (c :: u) (n + 1)
theorem Acc.run {l : List St} {i n : Nat} {u : List Nat} (h : Acc l i u n) : Run l i u 0 := by
  induction h with
  | done => exact .nil 0
  | eps h he hm _ ih => exact .eps h he hm ih
  | eat h he hc hm _ ih => exact .eat h he hc hm ih
theorem Run.acc {l : List St} {i : Nat} {u : List Nat} (h : Run l i u 0) : ∃ n, Acc l i u n := by
  generalize hk : 0 = k at h
  induction h with
  | nil i => subst hk; exact ⟨0, .done⟩
  | eps h he hm _ ih => obtain ⟨n, ih⟩ := ih hk; exact ⟨n + 1, .eps h he hm ih⟩
  | eat h he hc hm _ ih => obtain ⟨n, ih⟩ := ih hk; exact ⟨n + 1, .eat h he hc hm ih⟩
/-- A step that eats. -/
theorem Acc.byte {l : List St} {i t n : Nat} {u : List Nat} {p : Nat → Bool} (hi : 0 < i) (h : Acc l i u n) (hl : l[i]? = some ⟨p, true, [t]⟩) : ∃ c v m, u = c :: v ∧ p c = true ∧ m < n ∧ Acc l t v m := by
  cases h with
  | done => omega
  | eps h he hm hr => rw [hl] at h; injection h with h; subst h; cases he
  | eat h he hc hm hr =>
    rw [hl] at h; injection h with h; subst h
    injection hm with hm _
    subst hm
    exact ⟨_, _, _, rfl, hc, by omega, hr⟩
/-- A step that doesn't. -/
theorem Acc.free {l : List St} {i n : Nat} {u ns : List Nat} {p : Nat → Bool} (hi : 0 < i) (h : Acc l i u n) (hl : l[i]? = some ⟨p, false, ns⟩) : ∃ k m, k ∈ ns ∧ m < n ∧ Acc l k u m := by
  cases h with
  | done => omega
  | eps h he hm hr => rw [hl] at h; injection h with h; subst h; exact ⟨_, _, hm, by omega, hr⟩
  | eat h he hc hm hr => rw [hl] at h; injection h with h; subst h; cases he

namespace Rx
/-- A list has what another has there. -/
def Has (l T : List St) (lo hi : Nat) : Prop := ∀ i, lo ≤ i → i < hi → l[i]? = T[i]?

theorem Has.loop {l S : List St} {r : Rx} {s : St} (hH : Has l ((lay r S.length (S ++ [St.none])).1.set S.length s) S.length (S.length + (wt r + 1))) :
    l[S.length]? = some s ∧ Has l (lay r S.length (S ++ [St.none])).1 (S ++ [St.none]).length ((S ++ [St.none]).length + wt r) := by
  have h1 := (lay_len r S.length (S ++ [St.none])).1
  simp only [List.length_append, List.length_cons, List.length_nil] at h1
  refine ⟨?_, fun i h2 h3 => ?_⟩
  · rw [hH _ (Nat.le_refl _) (by omega), List.getElem?_set_self (by omega)]
  · simp only [List.length_append, List.length_cons, List.length_nil] at h2 h3
    rw [hH i (by omega) (by omega), List.getElem?_set_ne (by omega)]

mutual
theorem lay_takes : ∀ (x : Rx) (l : List St) (t : Nat) (S : List St), 0 < S.length → Has l (lay x t S).1 S.length (S.length + wt x) → ∀ (n : Nat) (u : List Nat), Acc l (lay x t S).2 u n → ∃ a b m, u = a ++ b ∧ L x a ∧ m ≤ n ∧ Acc l t b m
  | .byte p, l, t, S, hS, hH, n, u, h => by
    have hl : l[S.length]? = some ⟨p, true, [t]⟩ := by rw [hH _ (Nat.le_refl _) (by simp [wt])]; simp [lay]
    obtain ⟨c, v, m, rfl, hc, hm, hr⟩ := Acc.byte hS h hl
    exact ⟨[c], v, m, rfl, ⟨c, rfl, hc⟩, by omega, hr⟩
  | .row r, l, t, S, hS, hH, n, u, h => by
    simpa only [L] using layRow_takes r l t S hS hH n u h
  | .either r, l, t, S, hS, hH, n, u, h => by
    have hlen := (layWays_len r t S).1
    have hl : l[(layWays r t S).1.length]? = some ⟨fun _ => false, false, (layWays r t S).2⟩ := by rw [hH _ (by omega) (by simp only [wt]; omega)]; simp [lay]
    obtain ⟨k, m, hk, hm, hr⟩ := Acc.free (i := (layWays r t S).1.length) (by omega) h hl
    obtain ⟨a, b, m', h1, h2, h3, h4⟩ := layWays_takes r l t S hS (fun i h1 h2 => by
      rw [hH i h1 (by simp only [wt]; omega)]
      simp only [lay]
      rw [List.getElem?_append_left (by omega)]) m u k hk hr
    exact ⟨a, b, m', h1, by simpa only [L] using h2, by omega, h4⟩
  | .star r, l, t, S, hS, hH, n, u, h => by
    obtain ⟨hl, hin⟩ := Has.loop hH
    have ih := lay_takes r l S.length (S ++ [St.none]) (by simp) hin
    have hall : ∀ (n : Nat) (u : List Nat), Acc l S.length u n → ∃ a b m, u = a ++ b ∧ Star (L r) a ∧ m ≤ n ∧ Acc l t b m := by
      intro n
      induction n using Nat.strongRecOn with
      | _ n ihn =>
        intro u h
        obtain ⟨k, m, hk, hm, hr⟩ := Acc.free hS h hl
        simp only [List.mem_cons, List.not_mem_nil, or_false] at hk
        rcases hk with rfl | rfl
        · obtain ⟨a, b, m', rfl, h2, h3, h4⟩ := ih _ _ hr
          obtain ⟨c, d, m2, rfl, h6, h7, h8⟩ := ihn m' (by omega) b h4
          exact ⟨a ++ c, d, m2, by simp, .cons h2 h6, by omega, h8⟩
        · exact ⟨[], u, m, rfl, .nil, by omega, hr⟩
    simpa only [L] using hall n u h
  | .plus r, l, t, S, hS, hH, n, u, h => by
    obtain ⟨hl, hin⟩ := Has.loop hH
    have ih := lay_takes r l S.length (S ++ [St.none]) (by simp) hin
    have hall : ∀ (n : Nat) (u : List Nat), Acc l S.length u n → ∃ a b m, u = a ++ b ∧ Star (L r) a ∧ m ≤ n ∧ Acc l t b m := by
      intro n
      induction n using Nat.strongRecOn with
      | _ n ihn =>
        intro u h
        obtain ⟨k, m, hk, hm, hr⟩ := Acc.free hS h hl
        simp only [List.mem_cons, List.not_mem_nil, or_false] at hk
        rcases hk with rfl | rfl
        · obtain ⟨a, b, m', rfl, h2, h3, h4⟩ := ih _ _ hr
          obtain ⟨c, d, m2, rfl, h6, h7, h8⟩ := ihn m' (by omega) b h4
          exact ⟨a ++ c, d, m2, by simp, .cons h2 h6, by omega, h8⟩
        · exact ⟨[], u, m, rfl, .nil, by omega, hr⟩
    obtain ⟨a, b, m, rfl, h2, h3, h4⟩ := ih n u h
    obtain ⟨c, d, m2, rfl, h6, h7, h8⟩ := hall m b h4
    exact ⟨a ++ c, d, m2, by simp, by simp only [L]; exact ⟨a, c, rfl, h2, h6⟩, by omega, h8⟩
  | .maybe r, l, t, S, hS, hH, n, u, h => by
    have hlen := (lay_len r t S).1
    have hl : l[(lay r t S).1.length]? = some ⟨fun _ => false, false, [(lay r t S).2, t]⟩ := by rw [hH _ (by omega) (by simp only [wt]; omega)]; simp [lay]
    obtain ⟨k, m, hk, hm, hr⟩ := Acc.free (i := (lay r t S).1.length) (by omega) h hl
    simp only [List.mem_cons, List.not_mem_nil, or_false] at hk
    rcases hk with rfl | rfl
    · obtain ⟨a, b, m', h1, h2, h3, h4⟩ := lay_takes r l t S hS (fun i h1 h2 => by
        rw [hH i h1 (by simp only [wt]; omega)]
        simp only [lay]
        rw [List.getElem?_append_left (by omega)]) m u hr
      exact ⟨a, b, m', h1, by simp only [L]; exact .inr h2, by omega, h4⟩
    · exact ⟨[], u, m, rfl, by simp only [L]; exact .inl trivial, by omega, hr⟩
theorem layRow_takes : ∀ (x : List Rx) (l : List St) (t : Nat) (S : List St), 0 < S.length → Has l (layRow x t S).1 S.length (S.length + wts x) → ∀ (n : Nat) (u : List Nat), Acc l (layRow x t S).2 u n → ∃ a b m, u = a ++ b ∧ LRow x a ∧ m ≤ n ∧ Acc l t b m
  | [], l, t, S, hS, hH, n, u, h => ⟨[], u, n, rfl, by simp only [LRow], Nat.le_refl _, h⟩
  | x :: r, l, t, S, hS, hH, n, u, h => by
    have hlen := (layRow_len r t S).1
    obtain ⟨a, b, m, rfl, h2, h3, h4⟩ := lay_takes x l (layRow r t S).2 (layRow r t S).1 (by omega) (fun i h1 h2 => hH i (by omega) (by simp only [wts]; omega)) n u h
    obtain ⟨c, d, m2, rfl, h6, h7, h8⟩ := layRow_takes r l t S hS (fun i h1 h2 => by
      rw [hH i h1 (by simp only [wts]; omega)]
      simp only [layRow]
      exact lay_get x _ _ i (by omega)) m b h4
    exact ⟨a ++ c, d, m2, by simp, by simp only [LRow]; exact ⟨a, c, rfl, h2, h6⟩, by omega, h8⟩
theorem layWays_takes : ∀ (x : List Rx) (l : List St) (t : Nat) (S : List St), 0 < S.length → Has l (layWays x t S).1 S.length (S.length + wts x) → ∀ (n : Nat) (u : List Nat) (k : Nat), k ∈ (layWays x t S).2 → Acc l k u n → ∃ a b m, u = a ++ b ∧ LAny x a ∧ m ≤ n ∧ Acc l t b m
  | [], l, t, S, hS, hH, n, u, k, hk, h => by simp [layWays] at hk
  | x :: r, l, t, S, hS, hH, n, u, k, hk, h => by
    have hlen := (lay_len x t S).1
    have hlen2 := (layWays_len r t (lay x t S).1).1
    simp only [layWays, List.mem_cons] at hk
    rcases hk with rfl | hk
    · obtain ⟨a, b, m, h1, h2, h3, h4⟩ := lay_takes x l t S hS (fun i h1 h2 => by
        rw [hH i h1 (by simp only [wts]; omega)]
        simp only [layWays]
        exact layWays_get r t _ i (by omega)) n u h
      exact ⟨a, b, m, h1, by simp only [LAny]; exact .inl h2, h3, h4⟩
    · obtain ⟨a, b, m, h1, h2, h3, h4⟩ := layWays_takes r l t (lay x t S).1 (by omega) (fun i h1 h2 => hH i (by omega) (by simp only [wts]; omega)) n u k hk h
      exact ⟨a, b, m, h1, by simp only [LAny]; exact .inr h2, h3, h4⟩
end

mutual
theorem lay_gives : ∀ (x : Rx) (l : List St) (t : Nat) (S : List St), Has l (lay x t S).1 S.length (S.length + wt x) → ∀ (a b : List Nat), L x a → Run l t b 0 → Run l (lay x t S).2 (a ++ b) 0
  | .byte p, l, t, S, hH, a, b, ha, hb => by
    have hl : l[S.length]? = some ⟨p, true, [t]⟩ := by rw [hH _ (Nat.le_refl _) (by simp [wt])]; simp [lay]
    simp only [L] at ha
    obtain ⟨c, rfl, hc⟩ := ha
    exact .eat hl rfl hc rfl hb
  | .row r, l, t, S, hH, a, b, ha, hb => by
    simp only [L] at ha
    exact layRow_gives r l t S hH a b ha hb
  | .either r, l, t, S, hH, a, b, ha, hb => by
    have hlen := (layWays_len r t S).1
    have hl : l[(layWays r t S).1.length]? = some ⟨fun _ => false, false, (layWays r t S).2⟩ := by rw [hH _ (by omega) (by simp only [wt]; omega)]; simp [lay]
    simp only [L] at ha
    obtain ⟨k, hk, hr⟩ := layWays_gives r l t S (fun i h1 h2 => by
      rw [hH i h1 (by simp only [wt]; omega)]
      simp only [lay]
      rw [List.getElem?_append_left (by omega)]) a b ha hb
    exact .eps hl rfl hk hr
  | .star r, l, t, S, hH, a, b, ha, hb => by
    obtain ⟨hl, hin⟩ := Has.loop hH
    have ih := lay_gives r l S.length (S ++ [St.none]) hin
    simp only [L] at ha
    show Run l S.length (a ++ b) 0
    induction ha with
    | nil => exact .eps hl rfl (by simp) hb
    | cons h1 _ ih2 =>
      rw [List.append_assoc]
      exact .eps hl rfl (by simp) (ih _ _ h1 ih2)
  | .plus r, l, t, S, hH, a, b, ha, hb => by
    obtain ⟨hl, hin⟩ := Has.loop hH
    have ih := lay_gives r l S.length (S ++ [St.none]) hin
    simp only [L] at ha
    obtain ⟨c, d, rfl, hc, hd⟩ := ha
    have hall : Run l S.length (d ++ b) 0 := by
      induction hd with
      | nil => exact .eps hl rfl (by simp) hb
      | cons h1 _ ih2 =>
        rw [List.append_assoc]
        exact .eps hl rfl (by simp) (ih _ _ h1 ih2)
    rw [List.append_assoc]
    exact ih _ _ hc hall
  | .maybe r, l, t, S, hH, a, b, ha, hb => by
    have hlen := (lay_len r t S).1
    have hl : l[(lay r t S).1.length]? = some ⟨fun _ => false, false, [(lay r t S).2, t]⟩ := by rw [hH _ (by omega) (by simp only [wt]; omega)]; simp [lay]
    simp only [L] at ha
    rcases ha with rfl | ha
    · exact .eps hl rfl (by simp) hb
    · exact .eps hl rfl (by simp) (lay_gives r l t S (fun i h1 h2 => by
        rw [hH i h1 (by simp only [wt]; omega)]
        simp only [lay]
        rw [List.getElem?_append_left (by omega)]) a b ha hb)
theorem layRow_gives : ∀ (x : List Rx) (l : List St) (t : Nat) (S : List St), Has l (layRow x t S).1 S.length (S.length + wts x) → ∀ (a b : List Nat), LRow x a → Run l t b 0 → Run l (layRow x t S).2 (a ++ b) 0
  | [], l, t, S, hH, a, b, ha, hb => by
    simp only [LRow] at ha
    subst ha
    exact hb
  | x :: r, l, t, S, hH, a, b, ha, hb => by
    have hlen := (layRow_len r t S).1
    simp only [LRow] at ha
    obtain ⟨c, d, rfl, hc, hd⟩ := ha
    rw [List.append_assoc]
    exact lay_gives x l _ _ (fun i h1 h2 => hH i (by omega) (by simp only [wts]; omega)) c (d ++ b) hc (layRow_gives r l t S (fun i h1 h2 => by
      rw [hH i h1 (by simp only [wts]; omega)]
      simp only [layRow]
      exact lay_get x _ _ i (by omega)) d b hd hb)
theorem layWays_gives : ∀ (x : List Rx) (l : List St) (t : Nat) (S : List St), Has l (layWays x t S).1 S.length (S.length + wts x) → ∀ (a b : List Nat), LAny x a → Run l t b 0 → ∃ k, k ∈ (layWays x t S).2 ∧ Run l k (a ++ b) 0
  | [], l, t, S, hH, a, b, ha, hb => by simp only [LAny] at ha
  | x :: r, l, t, S, hH, a, b, ha, hb => by
    have hlen := (lay_len x t S).1
    have hlen2 := (layWays_len r t (lay x t S).1).1
    simp only [LAny] at ha
    rcases ha with ha | ha
    · exact ⟨_, by simp [layWays], lay_gives x l t S (fun i h1 h2 => by
        rw [hH i h1 (by simp only [wts]; omega)]
        simp only [layWays]
        exact layWays_get r t _ i (by omega)) a b ha hb⟩
    · obtain ⟨k, hk, hr⟩ := layWays_gives r l t (lay x t S).1 (fun i h1 h2 => hH i (by omega) (by simp only [wts]; omega)) a b ha hb
      exact ⟨k, by simp [layWays, hk], hr⟩
end

theorem table_len (x : Rx) : x.table.length = wt x + 2 := by
  have := (lay_len x 0 [St.none]).1
  simp [table, this]; omega
theorem table_has (x : Rx) : Has x.table (lay x 0 [St.none]).1 1 (1 + wt x) := fun i h1 h2 => by
  have := (lay_len x 0 [St.none]).1
  simp only [List.length_cons, List.length_nil] at this
  simp only [table]
  rw [List.getElem?_append_left (by omega)]
theorem table_first (x : Rx) : x.table[x.table.length - 1]? = some ⟨fun _ => false, false, [(lay x 0 [St.none]).2]⟩ := by
  simp [table]
theorem table_zero (x : Rx) : x.table[0]? = some St.none := by
  have h := (lay_len x 0 [St.none]).1
  simp only [table]
  rw [List.getElem?_append_left (by rw [h]; simp; omega), lay_get x 0 [St.none] 0 (by simp)]
  rfl
theorem acc_zero {x : Rx} {u : List Nat} {n : Nat} (h : Acc x.table 0 u n) : u = [] := by
  cases h with
  | done => rfl
  | eps h he hm hr => rw [table_zero] at h; injection h with h; subst h; simp [St.none] at hm
  | eat h he hc hm hr => rw [table_zero] at h; injection h with h; subst h; simp [St.none] at he
/-- A pattern's automaton accepts what the pattern means. -/
theorem table_run (x : Rx) (u : List Nat) : Run x.table (x.table.length - 1) u 0 ↔ L x u := by
  constructor
  · intro h
    obtain ⟨n, h⟩ := h.acc
    obtain ⟨k, m, hk, _, hr⟩ := Acc.free (by rw [table_len]; omega) h (table_first x)
    simp only [List.mem_cons, List.not_mem_nil, or_false] at hk
    subst hk
    obtain ⟨a, b, m', rfl, h2, _, h4⟩ := lay_takes x x.table 0 [St.none] (by simp) (table_has x) m u hr
    rw [acc_zero h4, List.append_nil]
    exact h2
  · intro h
    have := lay_gives x x.table 0 [St.none] (table_has x) u [] h (.nil 0)
    rw [List.append_nil] at this
    exact .eps (table_first x) rfl (by simp) this

/-- A state that names states below N. -/
def Fine (N : Nat) (st : St) : Prop := (st.eat = true → ∃ m, st.next = [m]) ∧ st.next.length ≤ 100000 ∧ ∀ m, m ∈ st.next → m < N
theorem Fine.none (N : Nat) : Fine N St.none := ⟨fun h => by simp [St.none] at h, by simp [St.none], fun m h => by simp [St.none] at h⟩
theorem Fine.free {N : Nat} {ns : List Nat} (h1 : ns.length ≤ 100000) (h2 : ∀ m, m ∈ ns → m < N) : Fine N ⟨fun _ => false, false, ns⟩ := ⟨fun h => (by cases h), h1, h2⟩
theorem fine_set {N i : Nat} {S : List St} {st : St} (hS : ∀ s, s ∈ S → Fine N s) (h : Fine N st) : ∀ s, s ∈ S.set i st → Fine N s := fun s hs => by
  rcases List.mem_or_eq_of_mem_set hs with h1 | rfl
  · exact hS s h1
  · exact h
theorem fine_add {N : Nat} {S : List St} {st : St} (hS : ∀ s, s ∈ S → Fine N s) (h : Fine N st) : ∀ s, s ∈ S ++ [st] → Fine N s := fun s hs => by
  rcases List.mem_append.1 hs with h1 | h1
  · exact hS s h1
  · simp at h1; subst h1; exact h
mutual
theorem lay_fine : ∀ (x : Rx) (N t : Nat) (S : List St), sz x ≤ 100000 → t < N → S.length + wt x ≤ N → (∀ s, s ∈ S → Fine N s) → ∀ s, s ∈ (lay x t S).1 → Fine N s
  | .byte p, N, t, S, hx, ht, hN, hS => by
    simp only [lay]
    exact fine_add hS ⟨fun _ => ⟨t, rfl⟩, by simp, fun m hm => by simp at hm; omega⟩
  | .row r, N, t, S, hx, ht, hN, hS => by
    simp only [lay]
    simp only [sz] at hx
    simp only [wt] at hN
    exact layRow_fine r N t S (by omega) ht hN hS
  | .either r, N, t, S, hx, ht, hN, hS => by
    simp only [lay]
    simp only [sz] at hx
    simp only [wt] at hN
    obtain ⟨h1, h2⟩ := layWays_fine r N t S (by omega) ht (by omega) hS
    have h3 := (layWays_len r t S).2
    have h4 := szs_len r
    exact fine_add h1 (Fine.free (by omega) h2)
  | .star r, N, t, S, hx, ht, hN, hS => by
    simp only [lay]
    simp only [sz] at hx
    simp only [wt] at hN
    have h1 := (lay_len r S.length (S ++ [St.none])).2
    simp only [List.length_append, List.length_cons, List.length_nil] at h1
    exact fine_set (lay_fine r N S.length (S ++ [St.none]) (by omega) (by omega) (by simp; omega) (fine_add hS (Fine.none N))) (Fine.free (by simp) (fun m hm => by simp at hm; omega))
  | .plus r, N, t, S, hx, ht, hN, hS => by
    simp only [lay]
    simp only [sz] at hx
    simp only [wt] at hN
    have h1 := (lay_len r S.length (S ++ [St.none])).2
    simp only [List.length_append, List.length_cons, List.length_nil] at h1
    exact fine_set (lay_fine r N S.length (S ++ [St.none]) (by omega) (by omega) (by simp; omega) (fine_add hS (Fine.none N))) (Fine.free (by simp) (fun m hm => by simp at hm; omega))
  | .maybe r, N, t, S, hx, ht, hN, hS => by
    simp only [lay]
    simp only [sz] at hx
    simp only [wt] at hN
    have h1 := (lay_len r t S).2
    exact fine_add (lay_fine r N t S (by omega) ht (by omega) hS) (Fine.free (by simp) (fun m hm => by simp at hm; omega))
theorem layRow_fine : ∀ (x : List Rx) (N t : Nat) (S : List St), szs x ≤ 100000 → t < N → S.length + wts x ≤ N → (∀ s, s ∈ S → Fine N s) → ∀ s, s ∈ (layRow x t S).1 → Fine N s
  | [], N, t, S, hx, ht, hN, hS => by simpa only [layRow] using hS
  | x :: r, N, t, S, hx, ht, hN, hS => by
    simp only [layRow]
    simp only [szs] at hx
    simp only [wts] at hN
    have h1 := layRow_len r t S
    exact lay_fine x N _ _ (by omega) (by omega) (by omega) (layRow_fine r N t S (by omega) ht (by omega) hS)
theorem layWays_fine : ∀ (x : List Rx) (N t : Nat) (S : List St), szs x ≤ 100000 → t < N → S.length + wts x ≤ N → (∀ s, s ∈ S → Fine N s) → (∀ s, s ∈ (layWays x t S).1 → Fine N s) ∧ ∀ m, m ∈ (layWays x t S).2 → m < N
  | [], N, t, S, hx, ht, hN, hS => by simp only [layWays]; exact ⟨hS, fun m hm => by simp at hm⟩
  | x :: r, N, t, S, hx, ht, hN, hS => by
    simp only [layWays]
    simp only [szs] at hx
    simp only [wts] at hN
    have h0 := lay_len x t S
    obtain ⟨h1, h2⟩ := layWays_fine r N t (lay x t S).1 (by omega) ht (by omega) (lay_fine x N t S (by omega) ht (by omega) hS)
    exact ⟨h1, fun m hm => by
      rcases List.mem_cons.1 hm with rfl | hm
      · omega
      · exact h2 m hm⟩
end
theorem table_fine (x : Rx) (h : sz x ≤ 100000) : ∀ s, s ∈ x.table → Fine x.table.length s := by
  have h1 := table_len x
  have h2 := lay_len x 0 [St.none]
  simp only [List.length_cons, List.length_nil] at h2
  have h3 := lay_fine x x.table.length 0 [St.none] h (by omega) (by simp; omega) (fun s hs => by simp at hs; subst hs; exact Fine.none _)
  exact fine_add h3 (Fine.free (by simp) (fun m hm => by simp at hm; omega))
theorem table_WF (x : Rx) (h : sz x ≤ 100000) : WF x.table := fun _ st hk => (table_fine x h st (List.mem_of_getElem? hk)).2
theorem table_eat (x : Rx) (h : sz x ≤ 100000) : EatOK x.table := fun _ st hk => (table_fine x h st (List.mem_of_getElem? hk)).1
end Rx
end Go.Proofs.YtmlmnckhiianhaaDoor
