/- What is proved: RegexPlain answers true, whatever its two texts, and they read behind the call as before it. Conditions: none. -/
import Derived.Test.YtaaonhaighdlaaaRows
import Derived.WalkKit
import Derived.ProofKit
import Derived.OpenShut
import Derived.ChangeMaps5
import Derived.Test.YtaaonhaighdlaaaRxPb
namespace Go.Proofs.Ytaaonhaighdlaaa.regexPlain
open Go.ChangeShapes Go.WideShapes Go.ChangeAt Go.RowKit Go.ChangeMaps
set_option linter.unusedVariables false

theorem own : ownKnob Try.prog.godebug = none := by kernel_rfl

theorem far (s t : ByteArray) (w : World) (h : 32 < s.size ∨ (s.size ≤ 32 ∧ 64 < t.size)) : Calls Try.prog 6 #[.string s, .string t] w fun e w' => e = .returned (.bool true) ∧ Below w.heap.size w w' := by
  rcases h with h | ⟨hs, h⟩
  · have h1 : (32 : Int) < s.size := by omega
    go_enter Try.func6, Try.ntmps6
    go_wp2_with (go_at_call 8; ((with_reducible refine (awake_calls _).mono ?_); rintro e wF ⟨rfl, hbF⟩))
    go_ret
    exact ⟨rfl, (Chg.of_below (M := fun _ => False) hbF).below fun _ _ h => h⟩
  · have h0 : decide ((32 : Int) < s.size) = false := decide_eq_false (by omega)
    have h1 : (64 : Int) < t.size := by omega
    go_enter Try.func6, Try.ntmps6
    go_wp2_with (go_at_call 8; ((with_reducible refine (awake_calls _).mono ?_); rintro e wF ⟨rfl, hbF⟩))
    go_ret
    exact ⟨rfl, (Chg.of_below (M := fun _ => False) hbF).below fun _ _ h => h⟩

theorem walk (p s : ByteArray) (w : World) : Calls Try.prog 6 #[.string p, .string s] w fun e w' => e = .returned (.bool true) ∧ Below w.heap.size w w' := by
  by_cases hp : p.size ≤ 32
  · by_cases hs : s.size ≤ 64
    · exact plain_fine p s w hp hs
    · exact far p s w (.inr ⟨hp, by omega⟩)
  · exact far p s w (.inl (by omega))

set_option maxRecDepth 100000 in
theorem lifted (os : Os) (started : os.Started) (H : Type) (enc : TypeId × Value → H) :
    ReturnsInHanded {} Try.checked os 6 .any (Rows.regexPlainSpec.pre6 enc Try.prog Try.f6 Rows.regexPlainRow.domain false) (Rows.regexPlainSpec.post enc Try.prog Try.f6 false true false false) := by
  refine returnsInHanded_of_change (C := Try.checked) own started (by kernel_rfl) Try.func6
    (ChangeSpec.witness6 (enc := enc) (C := Try.checked) false ⟨#[], #[.string ByteArray.empty, .string ByteArray.empty], []⟩ 8 (by kernel_rfl) (by kernel_rfl) (by kernel_rfl) (by kernel_rfl)) ?_
  intro W base args ds gs before hval0 hW hcnd _
  have hval : ∀ (j : Nat) t v, Try.f6.params[j]? = some t → args[j]? = some v → Value.okWide Try.prog W .any base t v := hval0
  have hW' := hW
  obtain ⟨p, q, hA0, hV, rfl, hfz, hnd⟩ := hW
  have hA : DataW.TrodAll enc Try.prog W 0 (fun _ => true) true Try.f6.params.toList args.toList ds p := hA0
  rw [Try.params6] at hA hval
  obtain ⟨v0, vs0, d0, ds0, p0, q0, hargs, rfl, rfl, h0, r0⟩ := trodAll_cons hA
  obtain ⟨v1, vs1, d1, ds1, p1, q1, rfl, rfl, rfl, h1, r1⟩ := trodAll_cons r0
  obtain ⟨rfl, rfl, rfl⟩ := trodAll_nil r1
  obtain rfl : args = #[v0, v1] := by cases args; simp_all
  obtain ⟨rfl, rfl⟩ := trodVars_none hV
  obtain ⟨a0, rfl, rfl, rfl, w0⟩ := open_string Try.underlying9 (hval 0 9 v0 rfl rfl) h0
  obtain ⟨a1, rfl, rfl, rfl, w1⟩ := open_string Try.underlying9 (hval 1 9 v1 rfl rfl) h1
  clear hA0 hval0
  simp only [List.append_nil] at hW'
  refine (walk a0 a1 W).mono fun e W' ⟨he, hb⟩ => ?_
  subst he
  exact ⟨_, rfl, _, _, _, [], [], [], hW', (trodAll_cons_mk (shut_bool Try.underlying4 _) trodAll_mk0), (trodAll_cons_mk (shut_string Try.underlying9 w0) (trodAll_cons_mk (shut_string Try.underlying9 w1) trodAll_mk0)), rfl, hb.frame _, fun h => by cases h⟩

theorem over : Rows.regexPlainRow.holds Try.pinned (OpenSpec.ofChange Rows.regexPlainSpec) :=
  OpenClaim.holds_of_wide 6 Try.f6 rfl rfl rfl rfl rfl rfl rfl ⟨rfl, rfl, rfl, rfl, rfl⟩ rfl rfl rfl rfl rfl (by kernel_rfl) Try.func6 (by kernel_rfl)
    (of_decide_eq_true (by kernel_rfl)) (by unfold Func.isWrapper; first | (rw [if_pos (by decide +kernel)]; kernel_rfl) | (rw [if_neg (by decide +kernel)]; exact ⟨rfl, rfl⟩))
    (fun os started H enc _ => lifted os started H enc)

theorem proved : Rows.RegexPlainSaid :=
  over
#print axioms proved
end Go.Proofs.Ytaaonhaighdlaaa.regexPlain
