/-
  IdealNil: the row.
-/
import Derived.Test.YtleoicjpcdmfkaaRows
import Derived.Test.YtleoicjpcdmfkaaLa5
import Derived.Test.YtleoicjpcdmfkaaAb24
namespace Go.Proofs.Ytleoicjpcdmfkaa
open Go.ChangeShapes Go.WideShapes Go.ChangeAt Go.RowKit
open Ab

theorem own : ownKnob Try.prog.godebug = none := by kernel_rfl
theorem laidOut : laidOutB Try.prog = true := by kernel_rfl

theorem reads3 : ∀ t ∈ Try.f3.params.toList, Try.prog.readableRec t = true ∧ t < Try.prog.types.size := by
  rw [Try.params3]
  intro t ht
  have ht' : t = 25 ∨ t = 28 := by simpa using ht
  rcases ht' with rfl | rfl
  · exact ⟨by kernel_rfl, of_decide_eq_true (by kernel_rfl)⟩
  · exact ⟨by kernel_rfl, of_decide_eq_true (by kernel_rfl)⟩

theorem callOf {f : FuncId} {args : Array Value} {w : World} {h : FH} {φ : Emb} {args' : Array Value} (hs : Sim φ h w) (ha : AR φ args args') (hro : ∀ b B, Heap.get h b = some B → wr B = false)
    (hc : CallsTo tt f args h fun v _ => v = .bool true) : Calls Try.prog f args' w fun e w' => e = .returned (.bool true) ∧ Below w.heap.size w w' := by
  unfold tt at hc
  exact lift mixed hs ha hro hc

theorem idealNil_any (W : World) {cs0 cs1 : Array Value} (k0 : okL [.int .i64, .int .i64, .int .i64, .int .i64] cs0.toList) (k1 : okL [.int .u64, .int .i64, .bool] cs1.toList) :
    Calls Try.prog 3 #[.agg cs0, .agg cs1] W fun e w' => e = .returned (.bool true) ∧ Below W.heap.size W w' := by
  refine callOf (Sim.none W) (AR_push (AR_flat k0) (AR_push (AR_flat k1) (AR_nil _))) (fun b B h => by cases h) ?_
  obtain ⟨l0⟩ := cs0
  obtain ⟨l1⟩ := cs1
  obtain ⟨k, _, rfl, _, k0⟩ := okL_int k0
  obtain ⟨sl, _, rfl, _, k0⟩ := okL_int k0
  obtain ⟨pt, _, rfl, _, k0⟩ := okL_int k0
  obtain ⟨id, _, rfl, _, k0⟩ := okL_int k0
  cases okL_nil k0
  obtain ⟨x, _, rfl, _, k1⟩ := okL_int k1
  obtain ⟨y, _, rfl, _, k1⟩ := okL_int k1
  obtain ⟨z, _, rfl, kz⟩ := okL_bool k1
  cases okL_nil kz
  exact idealNil _ k sl pt id x y z FH.none_fresh

set_option maxRecDepth 100000 in
theorem idealNil_lifted (os : Os) (started : os.Started) (H : Type) (enc : TypeId × Value → H) :
    ReturnsInHanded {} Try.checked os 3 .any (Rows.idealNilSpec.pre6 enc Try.prog Try.f3 Rows.idealNilRow.domain false) (Rows.idealNilSpec.post enc Try.prog Try.f3 false true false false) := by
  refine returnsInHanded_of_change (C := Try.checked) own started (by kernel_rfl) Try.func3
    (ChangeSpec.witness6 (enc := enc) (C := Try.checked) false ⟨#[], #[.agg #[.int .i64 0, .int .i64 0, .int .i64 0, .int .i64 0], .agg #[.int .u64 0, .int .i64 0, .bool false]], []⟩ 8 (by kernel_rfl) (by kernel_rfl) (by kernel_rfl) (by kernel_rfl)) ?_
  intro W base args ds gs before hval0 hW hcnd _
  have hval : ∀ (j : Nat) t v, Try.f3.params[j]? = some t → args[j]? = some v → Value.okWide Try.prog W .any base t v := hval0
  have hW' := hW
  obtain ⟨p, q, hA0, hV, rfl, hfz, hnd⟩ := hW
  have hA : DataW.TrodAll enc Try.prog W 0 (fun _ => true) true Try.f3.params.toList args.toList ds p := hA0
  rw [Try.params3] at hA hval
  obtain ⟨v0, v1, d0, d1, p0, p1, rfl, rfl, rfl, h0, h1⟩ := trodAll_two hA
  obtain ⟨rfl, rfl⟩ := trodVars_none hV
  obtain ⟨cs0, rfl, k0⟩ := open_flat Try.underlying25 (n := 9) (ks := [.int .i64, .int .i64, .int .i64, .int .i64]) (by kernel_rfl) (hval 0 25 v0 rfl rfl) h0
  obtain ⟨cs1, rfl, k1⟩ := open_flat Try.underlying28 (n := 9) (ks := [.int .u64, .int .i64, .bool]) (by kernel_rfl) (hval 1 28 v1 rfl rfl) h1
  clear hA0 hval0
  refine (idealNil_any W k0 k1).mono fun e W' ⟨he, hb⟩ => ?_
  subst he
  exact ⟨_, rfl, post_true (tb := 4) laidOut hW' rfl (by kernel_rfl) Try.underlying4 reads3 rfl hb⟩

theorem idealNil_holds : Rows.IdealNilSaid :=
  OpenClaim.holds_of_wide 3 Try.f3 rfl rfl rfl rfl rfl rfl rfl ⟨rfl, rfl, rfl, rfl, rfl⟩ rfl rfl rfl rfl rfl (by kernel_rfl) Try.func3 (by kernel_rfl)
    (of_decide_eq_true (by kernel_rfl)) (by unfold Func.isWrapper; first | (rw [if_pos (by decide +kernel)]; kernel_rfl) | (rw [if_neg (by decide +kernel)]; exact ⟨rfl, rfl⟩))
    (fun os started H enc _ => idealNil_lifted os started H enc)

end Go.Proofs.Ytleoicjpcdmfkaa
