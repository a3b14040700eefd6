/-
  THE ABSTRACT MACHINE: rows of equal elements; small lemmas on numbers.
-/
import Derived.Test.YtleoicjpcdmfkaaAb25
set_option linter.unusedSimpArgs false
set_option linter.unusedVariables false
namespace Ab
open Go
open Heap (get put next skip)

/-! ### rows of equal elements -/

def rowsOf {α : Type} (f : α → List Value) (es : List α) : Array Value := (es.flatMap f).toArray

theorem rowsOf_nil {α : Type} (f : α → List Value) : rowsOf f [] = #[] := rfl
theorem rowsOf_push {α : Type} (f : α → List Value) (es : List α) (x : α) : rowsOf f (es ++ [x]) = rowsOf f es ++ (f x).toArray := by
  simp [rowsOf, List.flatMap_append]

section
variable {α : Type} {f : α → List Value} {sz : Nat}

theorem flatMap_len (hf : ∀ x, (f x).length = sz) : ∀ es : List α, (es.flatMap f).length = es.length * sz
  | [] => by simp
  | x :: es => by
    rw [List.flatMap_cons, List.length_append, hf, flatMap_len hf es, List.length_cons, Nat.add_mul]
    omega

theorem rowsOf_size (hf : ∀ x, (f x).length = sz) (es : List α) : (rowsOf f es).size = es.length * sz := by
  simpa [rowsOf] using flatMap_len hf es

theorem flatMap_drop (hf : ∀ x, (f x).length = sz) : ∀ (es : List α) (i : Nat) (x : α), es[i]? = some x → (es.flatMap f).drop (i * sz) = f x ++ (es.drop (i + 1)).flatMap f
  | [], i, x, h => by simp at h
  | y :: es, 0, x, h => by
    simp at h
    subst h
    simp
  | y :: es, i + 1, x, h => by
    have h' : es[i]? = some x := by simpa using h
    have := flatMap_drop hf es i x h'
    rw [List.flatMap_cons, Nat.add_mul, Nat.one_mul, Nat.add_comm (i * sz) sz, List.drop_append, hf y]
    rw [List.drop_of_length_le (by rw [hf]; omega), Nat.add_sub_cancel_left, this]
    simp

theorem rowsOf_get (hf : ∀ x, (f x).length = sz) {es : List α} {i : Nat} {x : α} (h : es[i]? = some x) {j : Nat} (hj : j < sz) : (rowsOf f es)[i * sz + j]? = (f x)[j]? := by
  have h1 := flatMap_drop hf es i x h
  have h2 : (rowsOf f es)[i * sz + j]? = ((es.flatMap f).drop (i * sz))[j]? := by
    simp [rowsOf, List.getElem?_drop]
  rw [h2, h1, List.getElem?_append_left (by rw [hf]; exact hj)]

theorem rowsOf_extract (hf : ∀ x, (f x).length = sz) {es : List α} {i : Nat} {x : α} (h : es[i]? = some x) {a b : Nat} (hb : b ≤ sz) : (rowsOf f es).extract (i * sz + a) (i * sz + b) = (((f x).drop a).take (b - a)).toArray := by
  apply Array.ext'
  refine List.ext_getElem? fun j => ?_
  rw [Array.getElem?_toList, Array.getElem?_extract]
  have hi : i < es.length := (List.getElem?_eq_some_iff.1 h).1
  have h1 : (i + 1) * sz ≤ es.length * sz := Nat.mul_le_mul_right _ hi
  rw [Nat.add_mul, Nat.one_mul] at h1
  have h2 := rowsOf_size hf es
  have h3 := hf x
  by_cases hj : a + j < b
  · rw [if_pos (by omega), Nat.add_assoc, rowsOf_get hf h (by omega)]
    simp [List.getElem?_take, List.getElem?_drop]
    omega
  · rw [if_neg (by omega)]
    simp [List.getElem?_take]
    omega

theorem rowsOf_set (hf : ∀ x, (f x).length = sz) {es : List α} {i : Nat} {x y : α} (h : es[i]? = some x) {j : Nat} {v : Value} (hj : j < sz) (hy : f y = (f x).set j v) : (rowsOf f es).setIfInBounds (i * sz + j) v = rowsOf f (es.set i y) := by
  have hi : i < es.length := (List.getElem?_eq_some_iff.1 h).1
  have hz : 0 < sz := by omega
  refine Array.ext (by rw [Array.size_setIfInBounds, rowsOf_size hf, rowsOf_size hf, List.length_set]) fun k h1 h2 => ?_
  rw [Array.size_setIfInBounds, rowsOf_size hf] at h1
  have hk : k = k / sz * sz + k % sz := by
    have := Nat.div_add_mod k sz
    rw [Nat.mul_comm] at this
    omega
  have hm := Nat.mod_lt k hz
  have hd : k / sz < es.length := by rw [Nat.div_lt_iff_lt_mul hz]; exact h1
  have hset : (es.set i y)[k / sz]? = some (if k / sz = i then y else es[k / sz]) := by
    rw [List.getElem?_set]
    by_cases q : i = k / sz
    · rw [if_pos q, if_pos hi, if_pos q.symm]
    · rw [if_neg q, if_neg fun r => q r.symm, List.getElem?_eq_getElem hd]
  refine Option.some.inj ?_
  rw [← Array.getElem?_eq_getElem h2, ← Array.getElem?_eq_getElem (by rw [Array.size_setIfInBounds, rowsOf_size hf]; exact h1), Array.getElem?_setIfInBounds, rowsOf_size hf]
  have e2 : (rowsOf f (es.set i y))[k]? = (f (if k / sz = i then y else es[k / sz]))[k % sz]? := by
    have := rowsOf_get hf hset hm
    rwa [← hk] at this
  rw [e2]
  have e1 : (rowsOf f es)[k]? = (f es[k / sz])[k % sz]? := by
    have := rowsOf_get hf (List.getElem?_eq_getElem hd) hm
    rwa [← hk] at this
  by_cases q : k / sz = i
  · rw [if_pos q, hy]
    by_cases q2 : k % sz = j
    · have : i * sz + j = k := by rw [← q, ← q2]; omega
      rw [if_pos this, if_pos (by omega), List.getElem?_set, if_pos q2.symm, if_pos (by rw [hf]; exact hj)]
    · have : i * sz + j ≠ k := by
        intro r
        rw [q] at hk
        omega
      have hx : es[k / sz] = x := by
        have : es[k / sz]? = some x := by rw [q]; exact h
        rw [List.getElem?_eq_getElem hd] at this
        exact Option.some.inj this
      rw [if_neg this, e1, List.getElem?_set, if_neg fun r => q2 r.symm, hx]
  · have : i * sz + j ≠ k := by
      intro r
      apply q
      rw [← r, Nat.add_comm, Nat.mul_comm, Nat.add_mul_div_left _ _ hz, Nat.div_eq_of_lt hj, Nat.zero_add]
    rw [if_neg this, if_neg q, e1]
end

section
variable {H : Type} [Heap H]

theorem Row.form {h : H} {r sz : Nat} {rv : Value} {n : Nat} {cs : Array Value} (hr : Row h r sz rv n cs) : ∃ base, rv = .slice base n n ∧ (0 < n → base = some ⟨r, 0, none⟩ ∧ get h r = some (.cells cs (.gr sz)) ∧ cs.size = n * sz ∧ r < next h) := by
  rcases hr with ⟨rfl, rfl, rfl⟩ | ⟨rfl, h1, h2, h3, h4⟩
  · exact ⟨none, rfl, fun q => absurd q (Nat.lt_irrefl _)⟩
  · exact ⟨_, rfl, fun _ => ⟨rfl, h2, h3, h4⟩⟩

/-- A row that was made empty. -/
def Row0 (h : H) (r sz : Nat) (rv : Value) (n : Nat) (cs : Array Value) : Prop :=
  Row h r sz rv n cs ∨ (rv = .slice (some ⟨r, 0, none⟩) 0 0 ∧ n = 0 ∧ cs = #[] ∧ ∃ md, get h r = some (.cells #[] md) ∧ (∀ z, md ≠ .gr z))

theorem Row0.form {h : H} {r sz : Nat} {rv : Value} {n : Nat} {cs : Array Value} (hr : Row0 h r sz rv n cs) : ∃ base, rv = .slice base n n ∧ (0 < n → base = some ⟨r, 0, none⟩ ∧ get h r = some (.cells cs (.gr sz)) ∧ cs.size = n * sz ∧ r < next h) := by
  rcases hr with h | ⟨rfl, rfl, rfl, _⟩
  · exact h.form
  · exact ⟨_, rfl, fun q => absurd q (Nat.lt_irrefl _)⟩

theorem Row0.keep {h h1 : H} {r sz : Nat} {rv : Value} {n : Nat} {cs : Array Value} (hr : Row0 h r sz rv n cs) (hn : next h ≤ next h1) (hg : get h1 r = get h r) : Row0 h1 r sz rv n cs := by
  rcases hr with h | ⟨h1, h2, h3, md, h4, h5⟩
  · exact .inl (h.keep hn fun _ _ => hg)
  · exact .inr ⟨h1, h2, h3, md, by rw [hg]; exact h4, h5⟩

theorem Row0.append {h : H} {r sz bytes id q : Nat} {rv : Value} {n : Nat} {cs xs : Array Value} (hr : Row0 h r sz rv n cs) (hq : get h q = some (.cells xs .rw)) (hs : xs.size = sz) (h1 : xs.all one = true) (hz : 0 < sz) (hb : (n + 1) * bytes ≤ roomy) (hid : id < next h) :
    ∃ h', aappend id sz bytes h rv (.slice (some ⟨q, 0, none⟩) 1 1) = some (.slice (some ⟨id, 0, none⟩) (n + 1) (n + 1), h') ∧ next h' = next h ∧ Row h' id sz (.slice (some ⟨id, 0, none⟩) (n + 1) (n + 1)) (n + 1) (cs ++ xs) ∧
      ∀ b, b ≠ id → (0 < n → b ≠ r) → get h' b = get h b := by
  rcases hr with h | ⟨rfl, rfl, rfl, md, hg, hmd⟩
  · exact h.append hq hs h1 hz hb hid
  · have hl : loadCs h ⟨q, 0, none⟩ (1 * sz) = some xs := by
      simp only [loadCs, hq, Nat.zero_add, Nat.one_mul]
      rw [if_pos (by omega), ← hs]
      simp
    have hcx : sliceCells h sz 1 (.slice (some ⟨q, 0, none⟩) 1 1) = some xs := by
      simp only [sliceCells]
      rw [if_neg (by omega), hl]
    refine ⟨put h id (some (.cells xs (.gr sz))), ?_, Heap.next_put _ _ _, .inr ⟨rfl, by omega, by rw [get_self]; simp, by simp [hs], by rw [Heap.next_put]; exact hid⟩, fun b b1 _ => get_ne _ _ b1⟩
    simp only [aappend, lenV, hcx]
    rw [if_neg (by simpa using hb)]
    simp only [hg]
    rw [if_neg (by omega)]
    simp only [Nat.zero_mul, if_true]
    cases md with
    | rw => simp
    | ro => simp
    | gr z => exact absurd rfl (hmd z)

theorem ocase_append0 {h : H} {r sz bytes id q : Nat} {rv : Value} {n : Nat} {cs xs : Array Value} {K : Tok → Value → H → Prop} (hr : Row0 h r sz rv n cs) (hq : get h q = some (.cells xs .rw)) (hs : xs.size = sz) (h1 : xs.all one = true) (hz : 0 < sz) (hb : (n + 1) * bytes ≤ roomy) (hid : id < next h)
    (hk : ∀ h', next h' = next h → Row h' id sz (.slice (some ⟨id, 0, none⟩) (n + 1) (n + 1)) (n + 1) (cs ++ xs) → (∀ b, b ≠ id → (0 < n → b ≠ r) → get h' b = get h b) → K .go (.slice (some ⟨id, 0, none⟩) (n + 1) (n + 1)) h') :
    ocase (aappend id sz bytes h rv (.slice (some ⟨q, 0, none⟩) 1 1)) K := by
  obtain ⟨h', e1, e2, e3, e4⟩ := hr.append hq hs h1 hz hb hid
  rw [e1]
  exact hk h' e2 e3 e4

end

theorem wrap_i64 {x : Int} (h1 : -9223372036854775808 ≤ x) (h2 : x < 9223372036854775808) : IntKind.i64.wrap x = x := by
  simp only [IntKind.wrap, IntKind.bits, IntKind.signed]
  simp
  omega

theorem wrap_u64 {x : Int} (h1 : 0 ≤ x) (h2 : x < 18446744073709551616) : IntKind.u64.wrap x = x := by
  simp only [IntKind.wrap, IntKind.bits, IntKind.signed]
  simp
  omega

theorem wrap_back {x : Int} (h1 : -9223372036854775808 ≤ x) (h2 : x < 9223372036854775808) : IntKind.i64.wrap (IntKind.u64.wrap x) = x := by
  simp only [IntKind.wrap, IntKind.bits, IntKind.signed]
  simp
  omega

theorem wrap_next {k : Nat} (h : k < 1000000000) : IntKind.i64.wrap ((k : Int) + 1) = ((k + 1 : Nat) : Int) := by
  rw [wrap_i64 (by omega) (by omega)]; rfl

theorem lt_cast (a b : Nat) : decide ((a : Int) < (b : Int)) = decide (a < b) := by
  by_cases h : a < b
  · simp [h]
  · simp [h]

theorem ofNat_eq (a b : Nat) : (((a : Nat) : Int) == ((b : Nat) : Int)) = (a == b) := by
  rw [Bool.eq_iff_iff]
  simp
  omega

end Ab
