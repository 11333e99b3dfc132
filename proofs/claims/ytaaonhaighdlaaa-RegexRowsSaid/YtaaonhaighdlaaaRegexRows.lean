/- What is proved: RegexRows answers true, whatever its three texts, and they read behind the call as before it. Conditions: none. -/
import Derived.Test.YtaaonhaighdlaaaRows
import Derived.WalkKit
import Derived.ProofKit
import Derived.OpenShut
import Derived.ChangeMaps5
import Derived.Test.YtaaonhaighdlaaaRxRc
import Derived.SizedLaws
namespace Go.Proofs.Ytaaonhaighdlaaa.regexRows
open Go.ChangeShapes Go.WideShapes Go.ChangeAt Go.RowKit Go.ChangeMaps
set_option linter.unusedVariables false

theorem own : ownKnob Try.prog.godebug = none := by kernel_rfl

theorem walk (p q s : ByteArray) (w : World) (hpm : p.size ≤ 140737488351232) (hqm : q.size ≤ 140737488351232) : Calls Try.prog 3 #[.string p, .string q, .string s] w fun e w' => e = .returned (.bool true) ∧ Below w.heap.size w w' := by
  by_cases hp : p.size + q.size ≤ 50
  · by_cases hs : s.size ≤ 30
    · cases hx : Rx.parse (bys p) with
      | error er => exact rows_bad1 p q s w hp hs er hx
      | ok x =>
        cases hy : Rx.parse (bys q) with
        | error er => exact rows_bad2 p q s w hp hs x hx er hy
        | ok y =>
          have e1 := bys_len p
          have e2 := bys_len q
          rcases Rx.parse_br hx (by omega) with ⟨hf, ha⟩ | ha
          · rcases Rx.parse_br hy (by omega) with ⟨hg, hb⟩ | hb
            · exact rows_fine p q s w hp hs x y hx hy _ _ _ _ ha hb (Rx.parse_brs hx hy (by omega) hf hg) (Rx.parse_ors hx hy (by omega) hf hg) (by rw [← bys_len s]; exact mt_seq x y (bys s)) (mt_or x y (bys s))
            · exact rows_deep2 p q s w hp hs x y hx hy _ ha hb
          · exact rows_deep1 p q s w hp hs x y hx hy ha
    · exact rows_far p q s w hpm hqm (.inr ⟨hp, by omega⟩)
  · exact rows_far p q s w hpm hqm (.inl (by omega))

set_option maxRecDepth 100000 in
theorem lifted (os : Os) (started : os.Started) (H : Type) (enc : TypeId × Value → H) :
    ReturnsInHanded {} Try.checked os 3 .any (Rows.regexRowsSpec.pre6 enc Try.prog Try.f3 Rows.regexRowsRow.domain false) (Rows.regexRowsSpec.post enc Try.prog Try.f3 false true false false) := by
  refine returnsInHanded_of_change_sized (C := Try.checked) own started (by kernel_rfl) Try.func3
    (ChangeSpec.witness6 (enc := enc) (C := Try.checked) false ⟨#[], #[.string ByteArray.empty, .string ByteArray.empty, .string ByteArray.empty], []⟩ 8 (by kernel_rfl) (by kernel_rfl) (by kernel_rfl) (by kernel_rfl)) ?_
  intro W base args ds gs before hval0 hW hcnd hsz0 _
  have hval : ∀ (j : Nat) t v, Try.f3.params[j]? = some t → args[j]? = some v → Value.okWide Try.prog W .any base t v := hval0
  have hsz : (DataW.weightsEach Try.prog (Try.f3.params.toList ++ Rows.regexRowsSpec.plain.varTypes Try.prog) (ds ++ gs)).all (· ≤ reachBytes) = true := hsz0
  have hW' := hW
  obtain ⟨p, q, hA0, hV, rfl, hfz, hnd⟩ := hW
  have hA : DataW.TrodAll enc Try.prog W 0 (fun _ => true) true Try.f3.params.toList args.toList ds p := hA0
  rw [Try.params3] at hA hval hsz
  obtain ⟨v0, vs0, d0, ds0, p0, q0, hargs, rfl, rfl, h0, r0⟩ := trodAll_cons hA
  obtain ⟨v1, vs1, d1, ds1, p1, q1, rfl, rfl, rfl, h1, r1⟩ := trodAll_cons r0
  obtain ⟨v2, vs2, d2, ds2, p2, q2, rfl, rfl, rfl, h2, r2⟩ := trodAll_cons r1
  obtain ⟨rfl, rfl, rfl⟩ := trodAll_nil r2
  obtain rfl : args = #[v0, v1, v2] := by cases args; simp_all
  obtain ⟨rfl, rfl⟩ := trodVars_none hV
  obtain ⟨a0, rfl, rfl, rfl, w0⟩ := open_string Try.underlying9 (hval 0 9 v0 rfl rfl) h0
  obtain ⟨a1, rfl, rfl, rfl, w1⟩ := open_string Try.underlying9 (hval 1 9 v1 rfl rfl) h1
  obtain ⟨a2, rfl, rfl, rfl, w2⟩ := open_string Try.underlying9 (hval 2 9 v2 rfl rfl) h2
  clear hA0 hval0
  have hs0 := sized_string hsz (j := 0) (t := 9) rfl rfl
  have hs1 := sized_string hsz (j := 1) (t := 9) rfl rfl
  have hz0 : a0.size ≤ 140737488351232 := hs0
  have hz1 : a1.size ≤ 140737488351232 := hs1
  simp only [List.append_nil] at hW'
  refine (walk a0 a1 a2 W hz0 hz1).mono fun e W' ⟨he, hb⟩ => ?_
  subst he
  exact ⟨_, rfl, _, _, _, [], [], [], hW', (trodAll_cons_mk (shut_bool Try.underlying4 _) trodAll_mk0), (trodAll_cons_mk (shut_string Try.underlying9 w0) (trodAll_cons_mk (shut_string Try.underlying9 w1) (trodAll_cons_mk (shut_string Try.underlying9 w2) trodAll_mk0))), rfl, hb.frame _, fun h => by cases h⟩

theorem over : Rows.regexRowsRow.holds Try.pinned (OpenSpec.ofChange Rows.regexRowsSpec) :=
  OpenClaim.holds_of_wide 3 Try.f3 rfl rfl rfl rfl rfl rfl rfl ⟨rfl, rfl, rfl, rfl, rfl⟩ rfl rfl rfl rfl rfl (by kernel_rfl) Try.func3 (by kernel_rfl)
    (of_decide_eq_true (by kernel_rfl)) (by unfold Func.isWrapper; first | (rw [if_pos (by decide +kernel)]; kernel_rfl) | (rw [if_neg (by decide +kernel)]; exact ⟨rfl, rfl⟩))
    (fun os started H enc _ => lifted os started H enc)

theorem proved : Rows.RegexRowsSaid :=
  over
#print axioms proved
end Go.Proofs.Ytaaonhaighdlaaa.regexRows
