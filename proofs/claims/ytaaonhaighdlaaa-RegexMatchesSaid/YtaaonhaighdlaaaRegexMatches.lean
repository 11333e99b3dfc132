/- What is proved: RegexMatches answers true, whatever its three texts, and they read behind the call as before it. Conditions: none. -/
import Derived.Test.YtaaonhaighdlaaaRows
import Derived.WalkKit
import Derived.ProofKit
import Derived.OpenShut
import Derived.ChangeMaps5
import Derived.Test.YtaaonhaighdlaaaRfO
namespace Go.Proofs.Ytaaonhaighdlaaa.regexMatches
open Go.ChangeShapes Go.WideShapes Go.ChangeAt Go.RowKit Go.ChangeMaps
set_option linter.unusedVariables false

theorem own : ownKnob Try.prog.godebug = none := by kernel_rfl

theorem far (p s t : ByteArray) (w : World) (h : 200 < p.size ∨ (p.size ≤ 200 ∧ 40 < s.size) ∨ (p.size ≤ 200 ∧ s.size ≤ 40 ∧ 40 < t.size)) : Calls Try.prog 7 #[.string p, .string s, .string t] w fun e w' => e = .returned (.bool true) ∧ Below w.heap.size w w' := by
  rcases h with h | ⟨hp, h⟩ | ⟨hp, hs, h⟩
  · have h1 : (200 : Int) < p.size := by omega
    go_enter Try.func7, Try.ntmps7
    go_wp2_with (go_at_call 8; ((with_reducible refine (awake_calls _).mono ?_); rintro e wF ⟨rfl, hbF⟩))
    go_ret
    exact ⟨rfl, (Chg.of_below (M := fun _ => False) hbF).below fun _ _ h => h⟩
  · have h0 : decide ((200 : Int) < (p.size : Int)) = false := decide_eq_false (by omega)
    have h1 : (40 : Int) < s.size := by omega
    go_enter Try.func7, Try.ntmps7
    go_wp2_with (go_at_call 8; ((with_reducible refine (awake_calls _).mono ?_); rintro e wF ⟨rfl, hbF⟩))
    go_ret
    exact ⟨rfl, (Chg.of_below (M := fun _ => False) hbF).below fun _ _ h => h⟩
  · have h0 : decide ((200 : Int) < (p.size : Int)) = false := decide_eq_false (by omega)
    have h1 : decide ((40 : Int) < (s.size : Int)) = false := decide_eq_false (by omega)
    have h2 : (40 : Int) < t.size := by omega
    go_enter Try.func7, Try.ntmps7
    go_wp2_with (go_at_call 8; ((with_reducible refine (awake_calls _).mono ?_); rintro e wF ⟨rfl, hbF⟩))
    go_ret
    exact ⟨rfl, (Chg.of_below (M := fun _ => False) hbF).below fun _ _ h => h⟩

theorem walk (p s t : ByteArray) (w : World) : Calls Try.prog 7 #[.string p, .string s, .string t] w fun e w' => e = .returned (.bool true) ∧ Below w.heap.size w w' := by
  by_cases hp : p.size ≤ 200
  · by_cases hs : s.size ≤ 40
    · by_cases ht : t.size ≤ 40
      · cases hx : Rx.parse (bys p) with
        | error er => exact matches_bad p s t w hp hs ht er hx
        | ok x => exact matches_fine p s t w hp hs ht x hx
      · exact far p s t w (.inr (.inr ⟨hp, hs, by omega⟩))
    · exact far p s t w (.inr (.inl ⟨hp, by omega⟩))
  · exact far p s t w (.inl (by omega))

set_option maxRecDepth 100000 in
theorem lifted (os : Os) (started : os.Started) (H : Type) (enc : TypeId × Value → H) :
    ReturnsInHanded {} Try.checked os 7 .any (Rows.regexMatchesSpec.pre6 enc Try.prog Try.f7 Rows.regexMatchesRow.domain false) (Rows.regexMatchesSpec.post enc Try.prog Try.f7 false true false false) := by
  refine returnsInHanded_of_change (C := Try.checked) own started (by kernel_rfl) Try.func7
    (ChangeSpec.witness6 (enc := enc) (C := Try.checked) false ⟨#[], #[.string ByteArray.empty, .string ByteArray.empty, .string ByteArray.empty], []⟩ 8 (by kernel_rfl) (by kernel_rfl) (by kernel_rfl) (by kernel_rfl)) ?_
  intro W base args ds gs before hval0 hW hcnd _
  have hval : ∀ (j : Nat) t v, Try.f7.params[j]? = some t → args[j]? = some v → Value.okWide Try.prog W .any base t v := hval0
  have hW' := hW
  obtain ⟨p, q, hA0, hV, rfl, hfz, hnd⟩ := hW
  have hA : DataW.TrodAll enc Try.prog W 0 (fun _ => true) true Try.f7.params.toList args.toList ds p := hA0
  rw [Try.params7] at hA hval
  obtain ⟨v0, vs0, d0, ds0, p0, q0, hargs, rfl, rfl, h0, r0⟩ := trodAll_cons hA
  obtain ⟨v1, vs1, d1, ds1, p1, q1, rfl, rfl, rfl, h1, r1⟩ := trodAll_cons r0
  obtain ⟨v2, vs2, d2, ds2, p2, q2, rfl, rfl, rfl, h2, r2⟩ := trodAll_cons r1
  obtain ⟨rfl, rfl, rfl⟩ := trodAll_nil r2
  obtain rfl : args = #[v0, v1, v2] := by cases args; simp_all
  obtain ⟨rfl, rfl⟩ := trodVars_none hV
  obtain ⟨a0, rfl, rfl, rfl, w0⟩ := open_string Try.underlying9 (hval 0 9 v0 rfl rfl) h0
  obtain ⟨a1, rfl, rfl, rfl, w1⟩ := open_string Try.underlying9 (hval 1 9 v1 rfl rfl) h1
  obtain ⟨a2, rfl, rfl, rfl, w2⟩ := open_string Try.underlying9 (hval 2 9 v2 rfl rfl) h2
  clear hA0 hval0
  simp only [List.append_nil] at hW'
  refine (walk a0 a1 a2 W).mono fun e W' ⟨he, hb⟩ => ?_
  subst he
  exact ⟨_, rfl, _, _, _, [], [], [], hW', (trodAll_cons_mk (shut_bool Try.underlying4 _) trodAll_mk0), (trodAll_cons_mk (shut_string Try.underlying9 w0) (trodAll_cons_mk (shut_string Try.underlying9 w1) (trodAll_cons_mk (shut_string Try.underlying9 w2) trodAll_mk0))), rfl, hb.frame _, fun h => by cases h⟩

theorem over : Rows.regexMatchesRow.holds Try.pinned (OpenSpec.ofChange Rows.regexMatchesSpec) :=
  OpenClaim.holds_of_wide 7 Try.f7 rfl rfl rfl rfl rfl rfl rfl ⟨rfl, rfl, rfl, rfl, rfl⟩ rfl rfl rfl rfl rfl (by kernel_rfl) Try.func7 (by kernel_rfl)
    (of_decide_eq_true (by kernel_rfl)) (by unfold Func.isWrapper; first | (rw [if_pos (by decide +kernel)]; kernel_rfl) | (rw [if_neg (by decide +kernel)]; exact ⟨rfl, rfl⟩))
    (fun os started H enc _ => lifted os started H enc)

theorem proved : Rows.RegexMatchesSaid :=
  over
#print axioms proved
end Go.Proofs.Ytaaonhaighdlaaa.regexMatches
