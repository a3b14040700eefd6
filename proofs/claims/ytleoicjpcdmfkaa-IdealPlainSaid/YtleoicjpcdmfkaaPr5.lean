/-
  IdealPlain: the row.
-/
import Derived.Test.YtleoicjpcdmfkaaRows
import Derived.Test.YtleoicjpcdmfkaaLa17
import Derived.Test.YtleoicjpcdmfkaaPr0
set_option linter.unusedSimpArgs false
set_option linter.unusedVariables false
namespace Go.Proofs.Ytleoicjpcdmfkaa
open Go.ChangeShapes Go.WideShapes Go.ChangeAt Go.RowKit
open Ab

theorem reads13 : ∀ t ∈ Try.f13.params.toList, Try.prog.readableRec t = true ∧ t < Try.prog.types.size := by
  rw [Try.params13]
  intro t ht
  have ht' : t = 44 := by simpa using ht
  subst ht'
  all_goals exact ⟨by kernel_rfl, of_decide_eq_true (by kernel_rfl)⟩

set_option maxRecDepth 100000 in
theorem idealPlain_lifted (os : Os) (started : os.Started) (H : Type) (enc : TypeId × Value → H) :
    ReturnsInHanded {} Try.checked os 13 .any (Rows.idealPlainSpec.pre6 enc Try.prog Try.f13 Rows.idealPlainRow.domain false) (Rows.idealPlainSpec.post enc Try.prog Try.f13 false true false false) := by
  refine returnsInHanded_of_change (C := Try.checked) own started (by kernel_rfl) Try.func13
    (ChangeSpec.witness6 (enc := enc) (C := Try.checked) false ⟨#[], #[.slice none 0 0], []⟩ 8 (by kernel_rfl) (by kernel_rfl) (by kernel_rfl) (by kernel_rfl)) ?_
  intro W base args ds gs before hval0 hW hcnd _
  have hval : ∀ (j : Nat) t v, Try.f13.params[j]? = some t → args[j]? = some v → Value.okWide Try.prog W .any base t v := hval0
  have hW' := hW
  obtain ⟨p, q, hA0, hV, rfl, hfz, hnd⟩ := hW
  have hA : DataW.TrodAll enc Try.prog W 0 (fun _ => true) true Try.f13.params.toList args.toList ds p := hA0
  rw [Try.params13] at hA hval
  obtain ⟨v0, d0, rfl, rfl, h0⟩ := trodAll_one hA
  obtain ⟨rfl, rfl⟩ := trodVars_none hV
  obtain ⟨φ, u, n, el, B, _, hs, hr, hu, hsl, hel⟩ := lay_rows (m := 9) (ks := actL) Try.underlying44 (by kernel_rfl) (by kernel_rfl) (by decide) (hval 0 44 v0 rfl rfl) h0 (Sim.none W) roNone
  clear hA0 hval0
  refine (callOf hs (AR_push hu (AR_nil _)) hr (idealPlain _ u _ n el hsl (Nat.lt_succ_self _) hel (fhro_fresh FH.none_fresh B))).mono fun e W' ⟨he, hb⟩ => ?_
  subst he
  exact ⟨_, rfl, post_true (tb := 4) laidOut hW' rfl (by kernel_rfl) Try.underlying4 reads13 rfl hb⟩

theorem idealPlain_holds : Rows.IdealPlainSaid :=
  OpenClaim.holds_of_wide 13 Try.f13 rfl rfl rfl rfl rfl rfl rfl ⟨rfl, rfl, rfl, rfl, rfl⟩ rfl rfl rfl rfl rfl (by kernel_rfl) Try.func13 (by kernel_rfl)
    (of_decide_eq_true (by kernel_rfl)) (by unfold Func.isWrapper; first | (rw [if_pos (by decide +kernel)]; kernel_rfl) | (rw [if_neg (by decide +kernel)]; exact ⟨rfl, rfl⟩))
    (fun os started H enc _ => idealPlain_lifted os started H enc)

end Go.Proofs.Ytleoicjpcdmfkaa
