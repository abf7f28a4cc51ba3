/-
  The law LocksPlays holds: for every input its call returns true, and each argument reads as it read before. No condition.
-/
import Derived.Test.YtjiaadkncpajnaaRows
import Derived.Test.YtjiaadkncpajnaaP3
import Derived.Test.YtjiaadkncpajnaaV3
namespace Go.Proofs.Ytjiaadkncpajnaa
open Go.ChangeShapes Go.WideShapes Go.ChangeAt Go.RowKit Go.V
theorem Try.own : ownKnob Try.prog.godebug = none := by kernel_rfl
theorem Try.laidOut : laidOutB Try.prog = true := by kernel_rfl
set_option maxRecDepth 100000 in
theorem locksPlays_lifted (os : Os) (started : os.Started) (H : Type) (enc : TypeId × Value → H) :
    ReturnsInHanded {} Try.checked os 6 .any (Rows.locksPlaysSpec.pre6 enc Try.prog Try.f6 Rows.locksPlaysRow.domain false) (Rows.locksPlaysSpec.post enc Try.prog Try.f6 false true false false) := by
  refine returnsInHanded_of_change (C := Try.checked) Try.own started (by kernel_rfl) Try.func6
    (ChangeSpec.witness6 (enc := enc) (C := Try.checked) false ⟨#[], #[.slice none 0 0], []⟩ 8 (by kernel_rfl) (by kernel_rfl) (by kernel_rfl) (by kernel_rfl)) ?_
  intro W base args ds gs before hval0 hW hcnd _
  have hval : ∀ (j : Nat) t v, Try.f6.params[j]? = some t → args[j]? = some v → Value.okWide Try.prog W .any base t v := hval0
  have hW1 : DataW.Whole enc Try.prog Try.f6.params.toList [] false W args.toList ds gs before := hW
  obtain ⟨p, q, hA0, hV, hpq, hfz, hnd⟩ := hW1
  have hA : DataW.TrodAll enc Try.prog W 0 (fun _ => true) true Try.f6.params.toList args.toList ds p := hA0
  rw [Try.params6] at hA hval
  obtain ⟨rfl, rfl⟩ := trodVars_none hV
  obtain ⟨v0, vs0, d0, ds0, p0, q0, hargs, rfl, rfl, h0, r0⟩ := trodAll_cons hA
  obtain ⟨rfl, rfl, rfl⟩ := trodAll_nil r0
  obtain rfl : args = #[v0] := by cases args; simp_all
  obtain ⟨x0, e0, k0⟩ := arg_u8s Try.underlying22 Try.underlying5 (by kernel_rfl) (hval 0 22 v0 rfl rfl) h0
  refine (law_walk ⟨_, Try.func6, rfl⟩ (plays_v x0 k0) (relL_args [⟨_, _, e0⟩])).mono fun e W' ⟨he, hb⟩ => ?_
  subst he
  exact ⟨_, rfl, law_post hW Try.laidOut (by kernel_rfl) rfl (by kernel_rfl) Try.underlying4 rfl rfl rfl hb⟩
theorem locksPlays_holds : Rows.LocksPlaysSaid :=
  OpenClaim.holds_of_wide 6 Try.f6 rfl rfl rfl rfl rfl rfl rfl ⟨rfl, rfl, rfl, rfl, rfl⟩ rfl rfl rfl rfl rfl (by kernel_rfl) Try.func6 (by kernel_rfl)
    (of_decide_eq_true (by kernel_rfl)) (by unfold Func.isWrapper; rw [if_neg (by decide +kernel)]; exact ⟨rfl, rfl⟩)
    (fun os started H enc _ => locksPlays_lifted os started H enc)
end Go.Proofs.Ytjiaadkncpajnaa
