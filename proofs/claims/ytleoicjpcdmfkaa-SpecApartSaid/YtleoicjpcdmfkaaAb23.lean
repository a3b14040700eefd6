/-
  THE ABSTRACT MACHINE: maps of integers by integers or by rows of four, rows that are appended to.
-/
import Derived.Test.YtleoicjpcdmfkaaAb22
set_option linter.unusedSimpArgs false
set_option linter.unusedVariables false
namespace Ab
open Go
open Heap (get put next skip)

/-! ### maps -/

/-- An association list's value, 0 where there is none. -/
def lkD {α : Type} [DecidableEq α] : List (α × Int) → α → Int
  | [], _ => 0
  | (x, v) :: r, k => if x = k then v else lkD r k

def stD {α : Type} [DecidableEq α] : List (α × Int) → α → Int → List (α × Int)
  | [], k, v => [(k, v)]
  | (x, u) :: r, k, v => if x = k then (k, v) :: r else (x, u) :: stD r k v

theorem lkD_stD {α : Type} [DecidableEq α] (k k' : α) (v : Int) : ∀ es : List (α × Int), lkD (stD es k v) k' = if k' = k then v else lkD es k'
  | [] => by
    simp only [stD, lkD]
    by_cases q : k' = k
    · rw [if_pos q, if_pos q.symm]
    · rw [if_neg q, if_neg fun r => q r.symm]
  | (x, u) :: r => by
    simp only [stD]
    by_cases q : x = k
    · rw [if_pos q]
      simp only [lkD]
      by_cases q' : k' = k
      · rw [if_pos q', if_pos q'.symm]
      · rw [if_neg q', if_neg fun r => q' r.symm, if_neg (fun r => q' (r.symm.trans q))]
    · rw [if_neg q]
      simp only [lkD]
      rw [lkD_stD k k' v r]
      by_cases q' : x = k'
      · rw [if_pos q', if_pos q', if_neg fun r => q (q'.trans r)]
      · rw [if_neg q', if_neg q']

abbrev K4 := Int × Int × Int × Int

def kV (k : K4) : Value := .agg #[.int .i64 k.1, .int .i64 k.2.1, .int .i64 k.2.2.1, .int .i64 k.2.2.2]
def iV (k : Int) : Value := .int .i64 k

def enc4 (kd : IntKind) (es : List (K4 × Int)) : List (Value × Value) := es.map fun p => (kV p.1, .int kd p.2)
def encI (kd : IntKind) (es : List (Int × Int)) : List (Value × Value) := es.map fun p => (iV p.1, .int kd p.2)

theorem keyEq4 (a b : K4) : keyEq (kV a) (kV b) = some (decide (a = b)) := by
  obtain ⟨a1, a2, a3, a4⟩ := a
  obtain ⟨b1, b2, b3, b4⟩ := b
  simp only [keyEq, kV, allEq, leafEq, Option.bind_some, Option.map_some, if_true, Bool.and_true, Option.some.injEq]
  rw [Bool.eq_iff_iff]
  simp

theorem keyEqI (a b : Int) : keyEq (iV a) (iV b) = some (decide (a = b)) := by
  simp only [keyEq, iV, leafEq, if_true, Option.some.injEq]
  rw [Bool.eq_iff_iff]
  simp

theorem findM4 (kd : IntKind) (k : K4) : ∀ es : List (K4 × Int), ∃ o, findM (kV k) (enc4 kd es) = some o ∧ (match o with | some v => v = .int kd (lkD es k) | none => lkD es k = 0)
  | [] => ⟨none, rfl, rfl⟩
  | (x, v) :: r => by
    simp only [enc4, List.map_cons, findM, keyEq4, lkD]
    by_cases q : x = k
    · have e : decide (k = x) = true := by simp [q]
      have e' : decide (x = k) = true := by simp [q]
      first
        | (simp only [e', if_pos q]; exact ⟨_, rfl, rfl⟩)
        | (simp only [e, if_pos q]; exact ⟨_, rfl, rfl⟩)
    · have e : decide (k = x) = false := by simp; exact fun r => q r.symm
      have e' : decide (x = k) = false := by simp [q]
      first
        | (simp only [e', if_neg q]; exact findM4 kd k r)
        | (simp only [e, if_neg q]; exact findM4 kd k r)

theorem findMI (kd : IntKind) (k : Int) : ∀ es : List (Int × Int), ∃ o, findM (iV k) (encI kd es) = some o ∧ (match o with | some v => v = .int kd (lkD es k) | none => lkD es k = 0)
  | [] => ⟨none, rfl, rfl⟩
  | (x, v) :: r => by
    simp only [encI, List.map_cons, findM, keyEqI, lkD]
    by_cases q : x = k
    · have e : decide (k = x) = true := by simp [q]
      have e' : decide (x = k) = true := by simp [q]
      first
        | (simp only [e', if_pos q]; exact ⟨_, rfl, rfl⟩)
        | (simp only [e, if_pos q]; exact ⟨_, rfl, rfl⟩)
    · have e : decide (k = x) = false := by simp; exact fun r => q r.symm
      have e' : decide (x = k) = false := by simp [q]
      first
        | (simp only [e', if_neg q]; exact findMI kd k r)
        | (simp only [e, if_neg q]; exact findMI kd k r)

theorem setM4 (kd : IntKind) (k : K4) (v : Int) : ∀ es : List (K4 × Int), setM (kV k) (.int kd v) (enc4 kd es) = some (enc4 kd (stD es k v)) ∨ ∃ es', setM (kV k) (.int kd v) (enc4 kd es) = some (enc4 kd es') ∧ ∀ k', lkD es' k' = if k' = k then v else lkD es k'
  | [] => .inl rfl
  | (x, u) :: r => by
    simp only [enc4, List.map_cons, setM, keyEq4, stD]
    by_cases q : x = k
    · have e : decide (k = x) = true := by simp [q]
      have e' : decide (x = k) = true := by simp [q]
      subst q
      simp only [decide_true, if_true]
      exact .inl rfl
    · have e : decide (k = x) = false := by simp; exact fun r => q r.symm
      have e' : decide (x = k) = false := by simp [q]
      have key : ∃ es', setM (kV k) (.int kd v) (enc4 kd r) = some (enc4 kd es') ∧ ∀ k', lkD es' k' = if k' = k then v else lkD r k' := by
        rcases setM4 kd k v r with h | h
        · exact ⟨_, h, fun k' => lkD_stD k k' v r⟩
        · exact h
      obtain ⟨es', h1, h2⟩ := key
      refine .inr ⟨(x, u) :: es', ?_, fun k' => ?_⟩
      · first
          | (simp only [e']; change Option.map _ (setM (kV k) (.int kd v) (enc4 kd r)) = _; rw [h1]; rfl)
          | (simp only [e]; change Option.map _ (setM (kV k) (.int kd v) (enc4 kd r)) = _; rw [h1]; rfl)
      · simp only [lkD]
        rw [h2 k']
        by_cases q' : x = k'
        · rw [if_pos q', if_pos q', if_neg fun r => q (q'.trans r)]
        · rw [if_neg q', if_neg q']

theorem setMI (kd : IntKind) (k v : Int) : ∀ es : List (Int × Int), ∃ es', setM (iV k) (.int kd v) (encI kd es) = some (encI kd es') ∧ ∀ k', lkD es' k' = if k' = k then v else lkD es k'
  | [] => ⟨[(k, v)], rfl, fun k' => by
      simp only [lkD]
      by_cases q : k' = k
      · rw [if_pos q, if_pos q.symm]
      · rw [if_neg q, if_neg fun r => q r.symm]⟩
  | (x, u) :: r => by
    simp only [encI, List.map_cons, setM, keyEqI]
    by_cases q : x = k
    · subst q
      simp only [decide_true]
      refine ⟨(x, v) :: r, rfl, fun k' => ?_⟩
      simp only [lkD]
      by_cases q' : k' = x
      · rw [if_pos q', if_pos q'.symm]
      · rw [if_neg q', if_neg fun r => q' r.symm, if_neg fun r => q' r.symm]
    · have e : decide (k = x) = false := by simp; exact fun r => q r.symm
      have e' : decide (x = k) = false := by simp [q]
      obtain ⟨es', h1, h2⟩ := setMI kd k v r
      refine ⟨(x, u) :: es', ?_, fun k' => ?_⟩
      · first
          | (simp only [e']; change Option.map _ (setM (iV k) (.int kd v) (encI kd r)) = _; rw [h1]; rfl)
          | (simp only [e]; change Option.map _ (setM (iV k) (.int kd v) (encI kd r)) = _; rw [h1]; rfl)
      · simp only [lkD]
        rw [h2 k']
        by_cases q' : x = k'
        · rw [if_pos q', if_pos q', if_neg fun r => q (q'.trans r)]
        · rw [if_neg q', if_neg q']

/-- What a map's block says of each key. -/
def Map4 (kd : IntKind) (B : Option Blk) (f : K4 → Int) : Prop := ∃ es, B = some (.map (enc4 kd es)) ∧ ∀ k, lkD es k = f k
def MapI (kd : IntKind) (B : Option Blk) (f : Int → Int) : Prop := ∃ es, B = some (.map (encI kd es)) ∧ ∀ k, lkD es k = f k

theorem Map4.empty (kd : IntKind) : Map4 kd (some (.map [])) fun _ => 0 := ⟨[], rfl, fun _ => rfl⟩
theorem MapI.empty (kd : IntKind) : MapI kd (some (.map [])) fun _ => 0 := ⟨[], rfl, fun _ => rfl⟩

def set4 (f : K4 → Int) (k : K4) (v : Int) : K4 → Int := fun k' => if k' = k then v else f k'
def setI (f : Int → Int) (k v : Int) : Int → Int := fun k' => if k' = k then v else f k'

section
variable {H : Type} [Heap H]

/-- The map that a look-up looks into, as an operation on the block. -/
def lookB (kk : KeyK) (zero : Value) (ok : Bool) (k : Value) (B : Option Blk) : Option Value :=
  match B with
  | some (.map es) => if kk.is k then (match findM k es with
    | some (some v) => some (if ok then .tuple #[v, .bool true] else v)
    | some none => some (if ok then .tuple #[zero, .bool false] else zero)
    | none => none) else none
  | _ => none

theorem a_lookup' (id : Nat) (kk : KeyK) (zero : Value) (ok : Bool) (x k : Operand) (tm : Array Value) (h : H) (r : Nat) (hx : ev tm x = .map (some r)) : aop id (.lookup kk zero ok x k) tm h = (lookB kk zero ok (ev tm k) (get h r)).map fun v => (v, h) := by
  rw [a_lookup, hx]
  dsimp only
  unfold lookB
  generalize get h r = B
  cases B with
  | none => rfl
  | some B =>
    cases B with
    | cells cs md => rfl
    | map es =>
      dsimp only
      by_cases q : kk.is (ev tm k) = true
      · rw [if_pos q, if_pos q]
        cases findM (ev tm k) es with
        | none => rfl
        | some o => cases o <;> rfl
      · rw [if_neg q, if_neg q]; rfl

theorem lookB4 {kd : IntKind} {B : Option Blk} {f : K4 → Int} (hm : Map4 kd B f) (a b c d : Int) : lookB (.agg [.int, .int, .int, .int]) (.int kd 0) false (.agg #[.int .i64 a, .int .i64 b, .int .i64 c, .int .i64 d]) B = some (.int kd (f (a, b, c, d))) := by
  obtain ⟨es, rfl, hf⟩ := hm
  obtain ⟨o, h1, h2⟩ := findM4 kd (a, b, c, d) es
  have h1' : findM (.agg #[.int .i64 a, .int .i64 b, .int .i64 c, .int .i64 d]) (enc4 kd es) = some o := h1
  unfold lookB
  simp only [KeyK.is, shapeL, LK.is, Bool.and_self, if_true, h1']
  rw [hf] at h2
  cases o with
  | none => simp only at h2 ⊢; rw [h2]; rfl
  | some v => simp only at h2 ⊢; rw [h2]; rfl

theorem lookBI {kd : IntKind} {B : Option Blk} {f : Int → Int} (hm : MapI kd B f) (a : Int) : lookB (.leaf .int) (.int kd 0) false (.int .i64 a) B = some (.int kd (f a)) := by
  obtain ⟨es, rfl, hf⟩ := hm
  obtain ⟨o, h1, h2⟩ := findMI kd a es
  have h1' : findM (.int .i64 a) (encI kd es) = some o := h1
  unfold lookB
  simp only [KeyK.is, LK.is, if_true, h1']
  rw [hf] at h2
  cases o with
  | none => simp only at h2 ⊢; rw [h2]; rfl
  | some v => simp only at h2 ⊢; rw [h2]; rfl

def setB (kk : KeyK) (k v : Value) (B : Option Blk) : Option Blk :=
  match B with
  | some (.map es) => if kk.is k then (setM k v es).map .map else none
  | _ => none

theorem a_mapUpdate' (id : Nat) (kk : KeyK) (m k v : Operand) (tm : Array Value) (h : H) (r : Nat) (hx : ev tm m = .map (some r)) : aop id (.mapUpdate kk m k v) tm h = (setB kk (ev tm k) (ev tm v) (get h r)).map fun B => (undef, put h r (some B)) := by
  rw [a_mapUpdate, hx]
  dsimp only
  unfold setB
  generalize get h r = B
  cases B with
  | none => rfl
  | some B =>
    cases B with
    | cells cs md => rfl
    | map es =>
      dsimp only
      by_cases q : kk.is (ev tm k) = true
      · rw [if_pos q, if_pos q]
        cases setM (ev tm k) (ev tm v) es <;> rfl
      · rw [if_neg q, if_neg q]; rfl

theorem setB4 {kd : IntKind} {B : Option Blk} {f : K4 → Int} (hm : Map4 kd B f) (a b c d v : Int) : ∃ B', setB (.agg [.int, .int, .int, .int]) (.agg #[.int .i64 a, .int .i64 b, .int .i64 c, .int .i64 d]) (.int kd v) B = some B' ∧ Map4 kd (some B') (set4 f (a, b, c, d) v) := by
  obtain ⟨es, rfl, hf⟩ := hm
  have key : ∃ es', setM (kV (a, b, c, d)) (.int kd v) (enc4 kd es) = some (enc4 kd es') ∧ ∀ k', lkD es' k' = if k' = (a, b, c, d) then v else lkD es k' := by
    rcases setM4 kd (a, b, c, d) v es with h | h
    · exact ⟨_, h, fun k' => lkD_stD _ k' v es⟩
    · exact h
  obtain ⟨es', h1, h2⟩ := key
  have h1' : setM (.agg #[.int .i64 a, .int .i64 b, .int .i64 c, .int .i64 d]) (.int kd v) (enc4 kd es) = some (enc4 kd es') := h1
  refine ⟨.map (enc4 kd es'), ?_, es', rfl, fun k => ?_⟩
  · unfold setB
    simp only [KeyK.is, shapeL, LK.is, Bool.and_self, if_true, h1', Option.map_some]
  · rw [h2, hf]; rfl

theorem setBI {kd : IntKind} {B : Option Blk} {f : Int → Int} (hm : MapI kd B f) (a v : Int) : ∃ B', setB (.leaf .int) (.int .i64 a) (.int kd v) B = some B' ∧ MapI kd (some B') (setI f a v) := by
  obtain ⟨es, rfl, hf⟩ := hm
  obtain ⟨es', h1, h2⟩ := setMI kd a v es
  have h1' : setM (.int .i64 a) (.int kd v) (encI kd es) = some (encI kd es') := h1
  refine ⟨.map (encI kd es'), ?_, es', rfl, fun k => ?_⟩
  · unfold setB
    simp only [KeyK.is, LK.is, if_true, h1', Option.map_some]
  · rw [h2, hf]; rfl

def lookV (kk : KeyK) (zero : Value) (ok : Bool) (x k : Value) (h : H) : Option (Value × H) :=
  match x with
  | .map none => if kk.is k then some (if ok then .tuple #[zero, .bool false] else zero, h) else none
  | .map (some r) => (lookB kk zero ok k (get h r)).map fun v => (v, h)
  | _ => none
theorem a_lookup2 (id : Nat) (kk : KeyK) (zero : Value) (ok : Bool) (x k : Operand) (tm : Array Value) (h : H) : aop id (.lookup kk zero ok x k) tm h = lookV kk zero ok (ev tm x) (ev tm k) h := by
  cases q : ev tm x with
  | map r =>
    cases r with
    | none => rw [a_lookup, q]; rfl
    | some r => rw [a_lookup' id kk zero ok x k tm h r q]; rfl
  | _ => rw [a_lookup, q]; rfl
theorem lookV_some (kk : KeyK) (zero : Value) (ok : Bool) (r : Nat) (k : Value) (h : H) : lookV kk zero ok (.map (some r)) k h = (lookB kk zero ok k (get h r)).map fun v => (v, h) := nr rfl

def updV (kk : KeyK) (x k v : Value) (h : H) : Option (Value × H) :=
  match x with
  | .map (some r) => (setB kk k v (get h r)).map fun B => (undef, put h r (some B))
  | _ => none
theorem a_mapUpdate2 (id : Nat) (kk : KeyK) (m k v : Operand) (tm : Array Value) (h : H) : aop id (.mapUpdate kk m k v) tm h = updV kk (ev tm m) (ev tm k) (ev tm v) h := by
  cases q : ev tm m with
  | map r =>
    cases r with
    | none => rw [a_mapUpdate, q]; rfl
    | some r => rw [a_mapUpdate' id kk m k v tm h r q]; rfl
  | _ => rw [a_mapUpdate, q]; rfl
theorem updV_some (kk : KeyK) (r : Nat) (k v : Value) (h : H) : updV kk (.map (some r)) k v h = (setB kk k v (get h r)).map fun B => (undef, put h r (some B)) := nr rfl

theorem storeCs_eq (h : H) (a : Addr) (xs : Array Value) : storeCs h a xs =
    match a.spot, get h a.block with
    | none, some (.cells cs md) => if md ≠ .ro ∧ a.off + xs.size ≤ cs.size ∧ xs.toList.all one = true then some (put h a.block (some (.cells (setAll cs a.off xs.toList) md))) else none
    | _, _ => none := by
  rw [Array.all_toList]
  rfl

theorem DynAll_cons (base : Nat) (l : List BOper) (tr : List (Rec H)) (hN : H) (p : Nat × Nat) (r : List (Nat × Nat)) : DynAll base l tr hN (p :: r) = (dynB base l tr hN p ∧ DynAll base l tr hN r) := by
  unfold DynAll
  simp
theorem DynAll_nil (base : Nat) (l : List BOper) (tr : List (Rec H)) (hN : H) : DynAll base l tr hN [] = True := by
  unfold DynAll
  simp

/-! ### rows -/

/-- A row that only appends have made. -/
def Row (h : H) (r sz : Nat) (rv : Value) (n : Nat) (cs : Array Value) : Prop :=
  (rv = .slice none 0 0 ∧ n = 0 ∧ cs = #[]) ∨ (rv = .slice (some ⟨r, 0, none⟩) n n ∧ 0 < n ∧ get h r = some (.cells cs (.gr sz)) ∧ cs.size = n * sz ∧ r < next h)

theorem Row.keep {h h1 : H} {r sz : Nat} {rv : Value} {n : Nat} {cs : Array Value} (hr : Row h r sz rv n cs) (hn : next h ≤ next h1) (hg : 0 < n → r < next h → get h1 r = get h r) : Row h1 r sz rv n cs := by
  rcases hr with h | ⟨h1, h2, h3, h4, h5⟩
  · exact .inl h
  · exact .inr ⟨h1, h2, by rw [hg h2 h5]; exact h3, h4, by omega⟩

theorem Row.append {h : H} {r sz bytes id q : Nat} {rv : Value} {n : Nat} {cs xs : Array Value} (hr : Row h r sz rv n cs) (hq : get h q = some (.cells xs .rw)) (hs : xs.size = sz) (h1 : xs.all one = true) (hz : 0 < sz) (hb : (n + 1) * bytes ≤ roomy) (hid : id < next h) :
    ∃ h', aappend id sz bytes h rv (.slice (some ⟨q, 0, none⟩) 1 1) = some (.slice (some ⟨id, 0, none⟩) (n + 1) (n + 1), h') ∧ next h' = next h ∧ Row h' id sz (.slice (some ⟨id, 0, none⟩) (n + 1) (n + 1)) (n + 1) (cs ++ xs) ∧
      ∀ b, b ≠ id → (0 < n → b ≠ r) → get h' b = get h b := by
  have hsz : sz ≠ 0 := by omega
  have hl : loadCs h ⟨q, 0, none⟩ (1 * sz) = some xs := by
    simp only [loadCs, hq, Nat.zero_add, Nat.one_mul]
    rw [if_pos (by omega), ← hs]
    simp
  have hcx : sliceCells h sz 1 (.slice (some ⟨q, 0, none⟩) 1 1) = some xs := by
    simp only [sliceCells]
    rw [if_neg (by omega), hl]
  rcases hr with ⟨rfl, rfl, rfl⟩ | ⟨rfl, hn, hg, hcs, hlt⟩
  · refine ⟨put h id (some (.cells xs (.gr sz))), ?_, Heap.next_put _ _ _, .inr ⟨rfl, by omega, by rw [get_self]; simp, by simp [hs], by rw [Heap.next_put]; exact hid⟩, fun b b1 _ => get_ne _ _ b1⟩
    simp only [aappend, lenV, hcx]
    rw [if_neg (by simpa using hb)]
    simp
  · refine ⟨put (put h r none) id (some (.cells (cs ++ xs) (.gr sz))), ?_, by rw [Heap.next_put, Heap.next_put], .inr ⟨rfl, by omega, get_self _ _ _, by simp [hcs, hs, Nat.add_mul], by rw [Heap.next_put, Heap.next_put]; exact hid⟩, fun b b1 b2 => by rw [get_ne _ _ b1, get_ne _ _ (b2 hn)]⟩
    have ho : loadCs h ⟨r, 0, none⟩ (n * sz) = some cs := by
      simp only [loadCs, hg, Nat.zero_add]
      rw [if_pos (by omega), ← hcs]
      simp
    simp only [aappend, lenV, hcx]
    rw [if_neg (by simpa using hb)]
    simp only [hg]
    rw [if_neg (by omega)]
    have hnz : n * sz ≠ 0 := Nat.mul_ne_zero (by omega) hsz
    rw [if_neg hnz, ho]
    simp only
    rw [if_neg]
    simp [h1]
    refine ⟨by omega, by omega⟩

theorem ocase_append {h : H} {r sz bytes id q : Nat} {rv : Value} {n : Nat} {cs xs : Array Value} {K : Tok → Value → H → Prop} (hr : Row h r sz rv n cs) (hq : get h q = some (.cells xs .rw)) (hs : xs.size = sz) (h1 : xs.all one = true) (hz : 0 < sz) (hb : (n + 1) * bytes ≤ roomy) (hid : id < next h)
    (hk : ∀ h', next h' = next h → Row h' id sz (.slice (some ⟨id, 0, none⟩) (n + 1) (n + 1)) (n + 1) (cs ++ xs) → (∀ b, b ≠ id → (0 < n → b ≠ r) → get h' b = get h b) → K .go (.slice (some ⟨id, 0, none⟩) (n + 1) (n + 1)) h') :
    ocase (aappend id sz bytes h rv (.slice (some ⟨q, 0, none⟩) 1 1)) K := by
  obtain ⟨h', e1, e2, e3, e4⟩ := hr.append hq hs h1 hz hb hid
  rw [e1]
  exact hk h' e2 e3 e4

end
end Ab
