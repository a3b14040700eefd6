/-
  IdealKeeps: the row.
-/
import Derived.Test.YtleoicjpcdmfkaaRows
import Derived.Test.YtleoicjpcdmfkaaLa6
import Derived.Test.YtleoicjpcdmfkaaPr0
set_option linter.unusedSimpArgs false
set_option linter.unusedVariables false
namespace Go.Proofs.Ytleoicjpcdmfkaa
open Go.ChangeShapes Go.WideShapes Go.ChangeAt Go.RowKit
open Ab

theorem reads4 : ∀ t ∈ Try.f4.params.toList, Try.prog.readableRec t = true ∧ t < Try.prog.types.size := by
  rw [Try.params4]
  intro t ht
  have ht' : t = 44 ∨ t = 3 ∨ t = 3 ∨ t = 26 := by simpa using ht
  rcases ht' with rfl | rfl | rfl | rfl
  all_goals exact ⟨by kernel_rfl, of_decide_eq_true (by kernel_rfl)⟩

set_option maxRecDepth 100000 in
theorem idealKeeps_lifted (os : Os) (started : os.Started) (H : Type) (enc : TypeId × Value → H) :
    ReturnsInHanded {} Try.checked os 4 .any (Rows.idealKeepsSpec.pre6 enc Try.prog Try.f4 Rows.idealKeepsRow.domain false) (Rows.idealKeepsSpec.post enc Try.prog Try.f4 false true false false) := by
  refine returnsInHanded_of_change (C := Try.checked) own started (by kernel_rfl) Try.func4
    (ChangeSpec.witness6 (enc := enc) (C := Try.checked) false ⟨#[], #[.slice none 0 0, .int .i64 0, .int .i64 0, .int .u64 0], []⟩ 8 (by kernel_rfl) (by kernel_rfl) (by kernel_rfl) (by kernel_rfl)) ?_
  intro W base args ds gs before hval0 hW hcnd _
  have hval : ∀ (j : Nat) t v, Try.f4.params[j]? = some t → args[j]? = some v → Value.okWide Try.prog W .any base t v := hval0
  have hW' := hW
  obtain ⟨p, q, hA0, hV, rfl, hfz, hnd⟩ := hW
  have hA : DataW.TrodAll enc Try.prog W 0 (fun _ => true) true Try.f4.params.toList args.toList ds p := hA0
  rw [Try.params4] at hA hval
  obtain ⟨v0, v1, v2, v3, d0, d1, d2, d3, p0, p1, p2, p3, rfl, rfl, rfl, h0, h1, h2, h3⟩ := trodAll_four hA
  obtain ⟨rfl, rfl⟩ := trodVars_none hV
  obtain ⟨x1, rfl⟩ := okWide_int (k := .i64) (by kernel_rfl) (hval 1 3 v1 rfl rfl)
  obtain ⟨x2, rfl⟩ := okWide_int (k := .i64) (by kernel_rfl) (hval 2 3 v2 rfl rfl)
  obtain ⟨x3, rfl⟩ := okWide_int (k := .u64) (by kernel_rfl) (hval 3 26 v3 rfl rfl)
  obtain ⟨φ, u, n, el, B, _, hs, hr, hu, hsl, hel⟩ := lay_rows (m := 9) (ks := actL) Try.underlying44 (by kernel_rfl) (by kernel_rfl) (by decide) (hval 0 44 v0 rfl rfl) h0 (Sim.none W) roNone
  clear hA0 hval0
  refine (callOf hs (AR_push hu (AR_push (.int _ _) (AR_push (.int _ _) (AR_push (.int _ _) (AR_nil _))))) hr (idealKeeps _ u _ n el x1 x2 x3 hsl (Nat.lt_succ_self _) hel (fhro_fresh FH.none_fresh B))).mono fun e W' ⟨he, hb⟩ => ?_
  subst he
  exact ⟨_, rfl, post_true (tb := 4) laidOut hW' rfl (by kernel_rfl) Try.underlying4 reads4 rfl hb⟩

theorem idealKeeps_holds : Rows.IdealKeepsSaid :=
  OpenClaim.holds_of_wide 4 Try.f4 rfl rfl rfl rfl rfl rfl rfl ⟨rfl, rfl, rfl, rfl, rfl⟩ rfl rfl rfl rfl rfl (by kernel_rfl) Try.func4 (by kernel_rfl)
    (of_decide_eq_true (by kernel_rfl)) (by unfold Func.isWrapper; first | (rw [if_pos (by decide +kernel)]; kernel_rfl) | (rw [if_neg (by decide +kernel)]; exact ⟨rfl, rfl⟩))
    (fun os started H enc _ => idealKeeps_lifted os started H enc)

end Go.Proofs.Ytleoicjpcdmfkaa
