/-
  The layer 'spec': cells of pairs, cut and laid.
-/
import Derived.Test.YtleoicjpcdmfkaaLa21
set_option linter.unusedSimpArgs false
set_option linter.unusedVariables false
namespace Go.Proofs.Ytleoicjpcdmfkaa
open Go Ab
open Heap (get put next skip)

theorem setAll_toList {cs : Array Value} {xs : List Value} {off : Nat} (h : off + xs.length ≤ cs.size) : (setAll cs off xs).toList = cs.toList.take off ++ xs ++ cs.toList.drop (off + xs.length) := by
  refine List.ext_getElem? fun i => ?_
  rw [Array.getElem?_toList, setAll_get _ _ _ _ h]
  by_cases q : i < off
  · rw [if_neg (by omega), List.append_assoc, List.getElem?_append_left (by simp; omega), List.getElem?_take, if_pos q, Array.getElem?_toList]
  · by_cases q2 : i < off + xs.length
    · rw [if_pos (by omega), List.append_assoc, List.getElem?_append_right (by simp; omega), List.getElem?_append_left (by simp; omega)]
      congr 1
      simp
      omega
    · rw [if_neg (by omega), List.getElem?_append_right (by simp; omega), List.getElem?_drop, Array.getElem?_toList]
      congr 1
      simp
      omega

theorem p2_take : ∀ (qs : List (Int × Int)) (i : Nat), (qs.flatMap p2r).take (i * 2) = (qs.take i).flatMap p2r
  | [], i => by simp
  | x :: qs, 0 => by simp
  | x :: qs, i + 1 => by
    rw [List.flatMap_cons, Nat.add_mul, List.take_append, List.take_succ_cons, List.flatMap_cons, p2r_len]
    rw [List.take_of_length_le (by rw [p2r_len]; omega), show i * 2 + 1 * 2 - 2 = i * 2 by omega, p2_take qs i]

theorem p2_drop : ∀ (qs : List (Int × Int)) (i : Nat), (qs.flatMap p2r).drop (i * 2) = (qs.drop i).flatMap p2r
  | [], i => by simp
  | x :: qs, 0 => by simp
  | x :: qs, i + 1 => by
    rw [List.flatMap_cons, Nat.add_mul, List.drop_append, List.drop_succ_cons, p2r_len]
    rw [List.drop_of_length_le (by rw [p2r_len]; omega), show i * 2 + 1 * 2 - 2 = i * 2 by omega, p2_drop qs i]
    rfl

theorem stA_toList (n : Nat) (qs : List (Int × Int)) : (stA n qs).toList = .int .i64 (n : Int) :: qs.flatMap p2r := rfl

theorem stA_lay (n : Nat) {qs xs : List (Int × Int)} {i : Nat} (h : i + xs.length ≤ qs.length) : setAll (stA n qs) (1 + i * 2) (xs.flatMap p2r) = stA n (qs.take i ++ xs ++ qs.drop (i + xs.length)) := by
  apply Array.ext'
  have hl := flatMap_len p2r_len xs
  rw [setAll_toList (by rw [stA_size, hl]; omega), stA_toList, stA_toList, hl]
  rw [show 1 + i * 2 = i * 2 + 1 by omega, List.take_succ_cons, p2_take, show i * 2 + 1 + xs.length * 2 = (i + xs.length) * 2 + 1 by omega, List.drop_succ_cons, p2_drop]
  simp [List.flatMap_append]

theorem stA_cut (n : Nat) (qs : List (Int × Int)) (i m : Nat) : (stA n qs).extract (1 + i * 2) (1 + i * 2 + m * 2) = (((qs.drop i).take m).flatMap p2r).toArray := by
  apply Array.ext'
  rw [Array.toList_extract, stA_toList]
  simp only [List.extract_eq_take_drop]
  rw [show 1 + i * 2 + m * 2 - (1 + i * 2) = m * 2 by omega, show 1 + i * 2 = i * 2 + 1 by omega, List.drop_succ_cons, p2_drop, p2_take]

theorem stA_n (n n' : Nat) (qs : List (Int × Int)) : (stA n qs).setIfInBounds 0 (.int .i64 (n' : Int)) = stA n' qs := by
  simp [stA]

theorem stA_set (n : Nat) {qs : List (Int × Int)} {i : Nat} (x y : Int) (h : i < qs.length) : ((stA n qs).setIfInBounds (1 + i * 2) (.int .u64 x)).setIfInBounds (1 + i * 2 + 1) (.int .u64 y) = stA n (qs.set i (x, y)) := by
  have := stA_lay n (qs := qs) (xs := [(x, y)]) (i := i) (by simp; omega)
  rw [List.set_eq_take_append_cons_drop, if_pos h]
  simpa [p2r, setAll] using this

theorem stA_one (n : Nat) (qs : List (Int × Int)) : (stA n qs).toList.all one = true := by
  rw [stA_toList]
  simp only [List.all_cons, List.all_flatMap]
  simp [one, p2r]

theorem p2_one (qs : List (Int × Int)) : (qs.flatMap p2r).all one = true := by
  simp only [List.all_flatMap]
  simp [one, p2r]

section
variable {H : Type} [Heap H]

/-- A copy within one block. -/
theorem ocase_copy {id b o1 o2 m c1 dn c2 : Nat} {sb db : Option Addr} {A : Array Value} {d s : Operand} {tm : Array Value} {h : H} {K : Tok → Value → H → Prop} (hd : ev tm d = .slice db dn c2) (hs : ev tm s = .slice sb m c1)
    (hsb : 0 < m → sb = some ⟨b, o1, none⟩) (hdb : 0 < m → db = some ⟨b, o2, none⟩) (hsn : sb ≠ none) (hm : m ≤ dn) (hb : get h b = some (.cells A .rw)) (l1 : 0 < m → o1 + m * 2 ≤ A.size) (l2 : 0 < m → o2 + m * 2 ≤ A.size) (ho : A.toList.all one = true)
    (hk : ∀ h', next h' = next h → get h' b = some (.cells (if m = 0 then A else setAll A o2 (A.extract o1 (o1 + m * 2)).toList) .rw) → (∀ c, c ≠ b → get h' c = get h c) → K .go (.int .i64 (m : Int)) h') :
    ocase (aop id (.copy 2 d s) tm h) K := by
  rw [a_copy, hd, hs]
  simp only [lenV]
  rw [show Nat.min m dn = m from Nat.min_eq_left hm]
  cases sb with
  | none => exact absurd rfl hsn
  | some sa =>
    simp only [sliceCells]
    by_cases q : m = 0
    · subst q
      simp only [Nat.zero_mul, if_true, Option.bind_some]
      have := hk h rfl (by simpa using hb) fun _ _ => rfl
      cases db with
      | none => exact this
      | some da => exact this
    · have hp : 0 < m := Nat.pos_of_ne_zero q
      have e1 := hsb hp
      have e2 := hdb hp
      cases e1
      subst e2
      have hz : m * 2 ≠ 0 := by omega
      rw [if_neg hz]
      simp only [loadCs, hb]
      rw [if_pos (l1 hp)]
      simp only [Option.bind_some, storeCs_eq, hb]
      rw [if_neg hz, if_pos]
      · simp only [Option.map_some]
        refine hk _ (Heap.next_put _ _ _) (by rw [get_self, if_neg q]) fun c hc => get_ne _ _ hc
      · refine ⟨by simp, ?_, ?_⟩
        · have := l1 hp
          have := l2 hp
          simp
          omega
        · rw [List.all_eq_true] at ho ⊢
          intro x hx
          refine ho x ?_
          rw [Array.toList_extract] at hx
          simp only [List.extract_eq_take_drop] at hx
          exact List.mem_of_mem_drop (List.mem_of_mem_take hx)
/-- A copy, by its values. -/
def copyK (sz : Nat) (dv sv : Value) (h : H) (K : Tok → Value → H → Prop) : Prop := ocase (aop 0 (.copy sz (.const dv) (.const sv)) #[] h) K

theorem g_copy2 {tab : FuncId → Option AFunc} {n : Nat} (id sz : Nat) (d s : Operand) (e : Env) (h : H) (K : Tok → Value → H → Prop) : Ab.stepG Ab.Tok.go tab n id (.copy sz d s) e h K = copyK sz (ev (tmOf n e) d) (ev (tmOf n e) s) h K := nr rfl

@[congr] theorem copyK_congr (sz : Nat) {a a' b b' : Value} {h h' : H} (K : Tok → Value → H → Prop) (e1 : a = a') (e2 : b = b') (e3 : h = h') : copyK sz a b h K = copyK sz a' b' h' K := by rw [e1, e2, e3]

theorem copyK_of {b o1 o2 m c1 dn c2 : Nat} {sb db : Option Addr} {A : Array Value} {h : H} {K : Tok → Value → H → Prop}
    (hsb : 0 < m → sb = some ⟨b, o1, none⟩) (hdb : 0 < m → db = some ⟨b, o2, none⟩) (hsn : sb ≠ none) (hm : m ≤ dn) (hb : get h b = some (.cells A .rw)) (l1 : 0 < m → o1 + m * 2 ≤ A.size) (l2 : 0 < m → o2 + m * 2 ≤ A.size) (ho : A.toList.all one = true)
    (hk : ∀ h', next h' = next h → get h' b = some (.cells (if m = 0 then A else setAll A o2 (A.extract o1 (o1 + m * 2)).toList) .rw) → (∀ c, c ≠ b → get h' c = get h c) → K .go (.int .i64 (m : Int)) h') : copyK 2 (.slice db dn c2) (.slice sb m c1) h K :=
  ocase_copy (id := 0) (d := .const (.slice db dn c2)) (s := .const (.slice sb m c1)) (tm := #[]) rfl rfl hsb hdb hsn hm hb l1 l2 ho hk
end
end Go.Proofs.Ytleoicjpcdmfkaa
