/-
  SpecApart: the row.
-/
import Derived.Test.YtleoicjpcdmfkaaRows
import Derived.Test.YtleoicjpcdmfkaaLa30
import Derived.Test.YtleoicjpcdmfkaaPr0
set_option linter.unusedSimpArgs false
set_option linter.unusedVariables false
set_option linter.constructorNameAsVariable false
namespace Go.Proofs.Ytleoicjpcdmfkaa
open Go.ChangeShapes Go.WideShapes Go.ChangeAt Go.RowKit
open Ab

def prOf (cs : Array Value) : Int × Int := match cs.toList with
  | [.int _ x, .int _ y] => (x, y)
  | _ => (0, 0)

theorem prOf_ok {cs : Array Value} (h : okL [.int .u64, .int .u64] cs.toList) : cs = (p2r (prOf cs)).toArray := by
  obtain ⟨l⟩ := cs
  obtain ⟨x, _, rfl, _, h⟩ := okL_int h
  obtain ⟨y, _, rfl, _, h⟩ := okL_int h
  cases okL_nil h
  rfl

/-- A row of pairs that came in. -/
theorem pairs_of {h : FH} {v : Value} {a n : Nat} {el : Nat → Array Value} (hs : SlAt h v a 2 n el) (hel : ∀ i, i < n → okL [.int .u64, .int .u64] (el i).toList) :
    ∃ xs : List (Int × Int), xs.length = n ∧ SlAt h v a 2 xs.length (fun i => (p2r (xs.getD i (0, 0))).toArray) := by
  refine ⟨(List.range n).map fun i => prOf (el i), by simp, ?_⟩
  obtain ⟨base, cap, h1, h2, h3, h4⟩ := hs
  rw [List.length_map, List.length_range]
  refine ⟨base, cap, h1, h2, h3, fun hp => ?_⟩
  obtain ⟨q1, q2, cs, q3, q4, q5⟩ := h4 hp
  refine ⟨q1, q2, cs, q3, q4, fun i hi => ?_⟩
  rw [q5 i hi, prOf_ok (hel i hi)]
  simp [hi]

set_option maxRecDepth 100000 in
theorem len_of {φ : Emb} {u v : Value} {W : World} {base : Nat} {h : FH} {a n : Nat} {el : Nat → Array Value} {t e : TypeId} (ht : Try.prog.underlying t = some (.slice e)) (hv : Value.okWide Try.prog W .any base t v) (hu : VR φ u v) (hs : SlAt h u a 2 n el) : n < 9223372036854775808 := by
  obtain ⟨b, cap, rfl, _, _, _⟩ := hs
  simp only [Value.okWide, ht, Cell.okWide] at hv
  cases hu with
  | sliceNil => omega
  | slice b o c d n k h =>
    simp only [Cell.ok, ht] at hv
    have h1 := hv.1
    have h2 := hv.2.1
    have h3 : IntKind.i64.max = 9223372036854775807 := by decide
    omega
  | sliceG b o c d sz e n k k' h h1 h2 h3 =>
    simp only [Cell.ok, ht] at hv
    have h1 := hv.1
    have h2 := hv.2.1
    have h3 : IntKind.i64.max = 9223372036854775807 := by decide
    omega
  | sliceE => omega

theorem op_of {cs : Array Value} (h : okL [.int .i64, .int .u64, .int .u64, .int .i64] cs.toList) : ∃ a b c d, cs = #[.int .i64 a, .int .u64 b, .int .u64 c, .int .i64 d] := by
  obtain ⟨l⟩ := cs
  obtain ⟨a, _, rfl, _, h⟩ := okL_int h
  obtain ⟨b, _, rfl, _, h⟩ := okL_int h
  obtain ⟨c, _, rfl, _, h⟩ := okL_int h
  obtain ⟨d, _, rfl, _, h⟩ := okL_int h
  cases okL_nil h
  exact ⟨a, b, c, d, rfl⟩

theorem reads7 : ∀ t ∈ Try.f7.params.toList, Try.prog.readableRec t = true ∧ t < Try.prog.types.size := by
  rw [Try.params7]
  intro t ht
  have ht' : t = 86 ∨ t = 79 ∨ t = 79 := by simpa using ht
  rcases ht' with rfl | rfl | rfl
  all_goals exact ⟨by kernel_rfl, of_decide_eq_true (by kernel_rfl)⟩

set_option maxRecDepth 100000 in
theorem specApart_lifted (os : Os) (started : os.Started) (H : Type) (enc : TypeId × Value → H) :
    ReturnsInHanded {} Try.checked os 7 .any (Rows.specApartSpec.pre6 enc Try.prog Try.f7 Rows.specApartRow.domain false) (Rows.specApartSpec.post enc Try.prog Try.f7 false true false false) := by
  refine returnsInHanded_of_change (C := Try.checked) own started (by kernel_rfl) Try.func7
    (ChangeSpec.witness6 (enc := enc) (C := Try.checked) false ⟨#[], #[.slice none 0 0, .agg #[.int .i64 0, .int .u64 0, .int .u64 0, .int .i64 0], .agg #[.int .i64 0, .int .u64 0, .int .u64 0, .int .i64 0]], []⟩ 8 (by kernel_rfl) (by kernel_rfl) (by kernel_rfl) (by kernel_rfl)) ?_
  intro W base args ds gs before hval0 hW hcnd _
  have hval : ∀ (j : Nat) t v, Try.f7.params[j]? = some t → args[j]? = some v → Value.okWide Try.prog W .any base t v := hval0
  have hW' := hW
  obtain ⟨p, q, hA0, hV, rfl, hfz, hnd⟩ := hW
  have hA : DataW.TrodAll enc Try.prog W 0 (fun _ => true) true Try.f7.params.toList args.toList ds p := hA0
  rw [Try.params7] at hA hval
  obtain ⟨v0, v1, v2, d0, d1, d2, p0, p1, p2, rfl, rfl, rfl, h0, h1, h2⟩ := trodAll_three hA
  obtain ⟨rfl, rfl⟩ := trodVars_none hV
  obtain ⟨c1, rfl, k1⟩ := open_flat Try.underlying79 (n := 9) (ks := [.int .i64, .int .u64, .int .u64, .int .i64]) (by kernel_rfl) (hval 1 79 v1 rfl rfl) h1
  obtain ⟨c2, rfl, k2⟩ := open_flat Try.underlying79 (n := 9) (ks := [.int .i64, .int .u64, .int .u64, .int .i64]) (by kernel_rfl) (hval 2 79 v2 rfl rfl) h2
  obtain ⟨φ, u, n, el, B, _, hs, hr, hu, hsl, hel⟩ := lay_rows (m := 9) (ks := [.int .u64, .int .u64]) Try.underlying86 (by kernel_rfl) (by kernel_rfl) (by decide) (hval 0 86 v0 rfl rfl) h0 (Sim.none W) roNone
  have hn := len_of Try.underlying86 (hval 0 86 v0 rfl rfl) hu hsl
  obtain ⟨xs, hxl, hxs⟩ := pairs_of hsl hel
  have hf1 := AR_flat (φ := φ) k1
  have hf2 := AR_flat (φ := φ) k2
  obtain ⟨a1, a2, a3, a4, rfl⟩ := op_of k1
  obtain ⟨b1, b2, b3, b4, rfl⟩ := op_of k2
  clear hA0 hval0
  refine (callOf hs (AR_push hu (AR_push hf1 (AR_push hf2 (AR_nil _)))) hr (specApart _ u _ xs hxs (Nat.lt_succ_self _) (by omega) a1 a2 a3 a4 b1 b2 b3 b4 (fhro_fresh FH.none_fresh B))).mono fun e W' ⟨he, hb⟩ => ?_
  subst he
  exact ⟨_, rfl, post_true (tb := 4) laidOut hW' rfl (by kernel_rfl) Try.underlying4 reads7 rfl hb⟩

theorem specApart_holds : Rows.SpecApartSaid :=
  OpenClaim.holds_of_wide 7 Try.f7 rfl rfl rfl rfl rfl rfl rfl ⟨rfl, rfl, rfl, rfl, rfl⟩ rfl rfl rfl rfl rfl (by kernel_rfl) Try.func7 (by kernel_rfl)
    (of_decide_eq_true (by kernel_rfl)) (by unfold Func.isWrapper; first | (rw [if_pos (by decide +kernel)]; kernel_rfl) | (rw [if_neg (by decide +kernel)]; exact ⟨rfl, rfl⟩))
    (fun os started H enc _ => specApart_lifted os started H enc)

end Go.Proofs.Ytleoicjpcdmfkaa
