/-
  The law TransactionsFollow holds: for every input its call returns true, and each argument reads as it read before. No condition.
-/
import Derived.Test.YtepdccfgnafgcaaGreatRows
import Derived.Test.YtepdccfgnafgcaaGreatP4
import Derived.Test.YtepdccfgnafgcaaGreatV2
set_option linter.unusedSimpArgs false
set_option linter.unusedVariables false
set_option maxRecDepth 100000
set_option maxHeartbeats 8000000
namespace Go.Proofs.YtepdccfgnafgcaaGreat
open Go.ChangeShapes Go.WideShapes Go.ChangeAt Go.RowKit Go.V
theorem Tryz.own : ownKnob Tryz.prog.godebug = none := by kernel_rfl
theorem Tryz.laidOut : laidOutB Tryz.prog = true := by kernel_rfl
set_option maxRecDepth 100000 in
theorem transactionsFollow_lifted (os : Os) (started : os.Started) (H : Type) (enc : TypeId × Value → H) :
    ReturnsInHanded {} Tryz.checked os 4 .any (Rows.transactionsFollowSpec.pre6 enc Tryz.prog Tryz.f4 Rows.transactionsFollowRow.domain false) (Rows.transactionsFollowSpec.post enc Tryz.prog Tryz.f4 false true false false) := by
  refine returnsInHanded_of_change (C := Tryz.checked) Tryz.own started (by kernel_rfl) Tryz.func4
    (ChangeSpec.witness6 (enc := enc) (C := Tryz.checked) false ⟨#[], #[.slice none 0 0], []⟩ 8 (by kernel_rfl) (by kernel_rfl) (by kernel_rfl) (by kernel_rfl)) ?_
  intro W base args ds gs before hval0 hW hcnd _
  have hval : ∀ (j : Nat) t v, Tryz.f4.params[j]? = some t → args[j]? = some v → Value.okWide Tryz.prog W .any base t v := hval0
  have hW1 : DataW.Whole enc Tryz.prog Tryz.f4.params.toList [] false W args.toList ds gs before := hW
  obtain ⟨p, q, hA0, hV, hpq, hfz, hnd⟩ := hW1
  have hA : DataW.TrodAll enc Tryz.prog W 0 (fun _ => true) true Tryz.f4.params.toList args.toList ds p := hA0
  rw [Tryz.params4] at hA hval
  obtain ⟨rfl, rfl⟩ := trodVars_none hV
  obtain ⟨v0, vs0, d0, ds0, p0, q0, hargs, rfl, rfl, h0, r0⟩ := trodAll_cons hA
  obtain ⟨rfl, rfl, rfl⟩ := trodAll_nil r0
  obtain rfl : args = #[v0] := by cases args; simp_all
  obtain ⟨x0, e0, k0⟩ := QDB Tryz.underlying22 Tryz.underlying5 (by kernel_rfl) (hval 0 22 v0 rfl rfl) h0
  refine (Qyp ⟨_, Tryz.func4, rfl⟩ (Qsr x0 k0) (Qtq [⟨_, _, e0⟩])).mono fun e W' ⟨he, hb⟩ => ?_
  subst he
  exact ⟨_, rfl, Qyq hW Tryz.laidOut (by kernel_rfl) rfl (by kernel_rfl) Tryz.underlying4 rfl rfl rfl hb⟩
theorem transactionsFollow_holds : Rows.TransactionsFollowSaid :=
  OpenClaim.holds_of_wide 4 Tryz.f4 rfl rfl rfl rfl rfl rfl rfl ⟨rfl, rfl, rfl, rfl, rfl⟩ rfl rfl rfl rfl rfl (by kernel_rfl) Tryz.func4 (by kernel_rfl)
    (of_decide_eq_true (by kernel_rfl)) (by unfold Func.isWrapper; rw [if_neg (by decide +kernel)]; exact ⟨rfl, rfl⟩)
    (fun os started H enc _ => transactionsFollow_lifted os started H enc)
end Go.Proofs.YtepdccfgnafgcaaGreat
