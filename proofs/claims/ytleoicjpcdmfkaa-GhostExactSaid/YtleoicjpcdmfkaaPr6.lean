/-
  GhostExact: the row.
-/
import Derived.Test.YtleoicjpcdmfkaaRows
import Derived.Test.YtleoicjpcdmfkaaLa20
import Derived.Test.YtleoicjpcdmfkaaPr0
set_option linter.unusedSimpArgs false
set_option linter.unusedVariables false
namespace Go.Proofs.Ytleoicjpcdmfkaa
open Go.ChangeShapes Go.WideShapes Go.ChangeAt Go.RowKit
open Ab

theorem reads12 : ∀ t ∈ Try.f12.params.toList, Try.prog.readableRec t = true ∧ t < Try.prog.types.size := by
  rw [Try.params12]
  intro t ht
  have ht' : t = 103 := by simpa using ht
  subst ht'
  all_goals exact ⟨by kernel_rfl, of_decide_eq_true (by kernel_rfl)⟩

set_option maxRecDepth 100000 in
theorem ghostExact_lifted (os : Os) (started : os.Started) (H : Type) (enc : TypeId × Value → H) :
    ReturnsInHanded {} Try.checked os 12 .any (Rows.ghostExactSpec.pre6 enc Try.prog Try.f12 Rows.ghostExactRow.domain false) (Rows.ghostExactSpec.post enc Try.prog Try.f12 false true false false) := by
  refine returnsInHanded_of_change (C := Try.checked) own started (by kernel_rfl) Try.func12
    (ChangeSpec.witness6 (enc := enc) (C := Try.checked) false ⟨#[], #[.slice none 0 0], []⟩ 8 (by kernel_rfl) (by kernel_rfl) (by kernel_rfl) (by kernel_rfl)) ?_
  intro W base args ds gs before hval0 hW hcnd _
  have hval : ∀ (j : Nat) t v, Try.f12.params[j]? = some t → args[j]? = some v → Value.okWide Try.prog W .any base t v := hval0
  have hW' := hW
  obtain ⟨p, q, hA0, hV, rfl, hfz, hnd⟩ := hW
  have hA : DataW.TrodAll enc Try.prog W 0 (fun _ => true) true Try.f12.params.toList args.toList ds p := hA0
  rw [Try.params12] at hA hval
  obtain ⟨v0, d0, rfl, rfl, h0⟩ := trodAll_one hA
  obtain ⟨rfl, rfl⟩ := trodVars_none hV
  obtain ⟨φ, u, n, el, B, _, hs, hr, hu, hsl, hel⟩ := lay_rows (m := 9) (ks := actL) Try.underlying103 (by kernel_rfl) (by kernel_rfl) (by decide) (hval 0 103 v0 rfl rfl) h0 (Sim.none W) roNone
  clear hA0 hval0
  refine (callOf hs (AR_push hu (AR_nil _)) hr (ghostExact _ u _ n el hsl (Nat.lt_succ_self _) hel (fhro_fresh FH.none_fresh B))).mono fun e W' ⟨he, hb⟩ => ?_
  subst he
  exact ⟨_, rfl, post_true (tb := 4) laidOut hW' rfl (by kernel_rfl) Try.underlying4 reads12 rfl hb⟩

theorem ghostExact_holds : Rows.GhostExactSaid :=
  OpenClaim.holds_of_wide 12 Try.f12 rfl rfl rfl rfl rfl rfl rfl ⟨rfl, rfl, rfl, rfl, rfl⟩ rfl rfl rfl rfl rfl (by kernel_rfl) Try.func12 (by kernel_rfl)
    (of_decide_eq_true (by kernel_rfl)) (by unfold Func.isWrapper; first | (rw [if_pos (by decide +kernel)]; kernel_rfl) | (rw [if_neg (by decide +kernel)]; exact ⟨rfl, rfl⟩))
    (fun os started H enc _ => ghostExact_lifted os started H enc)

end Go.Proofs.Ytleoicjpcdmfkaa
