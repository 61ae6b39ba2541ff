/- Plain definitions and lemmas: lists of keys, and maps whose keys are strings. -/
import Derived.Test.YtndjoblgphalhaaG1
namespace Go.Eng
set_option linter.unusedSimpArgs false
set_option linter.unusedVariables false

def sl (ks : List B) : List (List V) := ks.map fun k => [V.str k]
theorem sl_len (ks : List B) : (sl ks).length = ks.length := by simp [sl]
theorem sl_get {ks : List B} {k : Nat} (h : k < ks.length) : (sl ks).getD k [] = [V.str (ks.getD k [])] := by
  simp [sl, List.getD_eq_getElem?_getD, List.getElem?_eq_getElem h]
theorem sl_lens {ks : List B} (h : lensOk [V.lst (sl ks)]) : ks.length ≤ 9223372036854775807 := by
  have := h.1.1
  rw [sl_len] at this
  simpa [maxLen] using this

def unsl : List (List V) → Option (List B)
  | [] => some []
  | [.str k] :: es => match unsl es with
    | some ks => some (k :: ks)
    | none => none
  | _ => none
theorem unsl_sl : ∀ ks : List B, unsl (sl ks) = some ks
  | [] => rfl
  | k :: ks => by
    have ih := unsl_sl ks
    simp only [sl, List.map_cons, unsl] at ih ⊢
    rw [ih]
theorem unsl_eq : ∀ {es : List (List V)} {ks : List B}, unsl es = some ks → es = sl ks
  | [], ks, h => by simp [unsl] at h; subst h; rfl
  | [] :: es, ks, h => by simp [unsl] at h
  | (_ :: _ :: _) :: es, ks, h => by simp [unsl] at h
  | [v] :: es, ks, h => by
    cases v <;> simp [unsl] at h
    split at h <;> simp at h
    rename_i ks' h'
    subst h
    rw [unsl_eq h']
    rfl
theorem unsl_nil : unsl [] = some [] := rfl

def keyAt (ks : List B) (j : Nat) : Prop := keyQ (ks.getD j []) = true ∧ ∀ m, m < j → ks.getD m [] ≠ ks.getD j []
instance (ks : List B) (j : Nat) : Decidable (keyAt ks j) := inferInstanceAs (Decidable (_ ∧ _))
def keysQ (ks : List B) : Bool := decide (ks.length ≤ 32) && decide (∀ j, j < ks.length → keyAt ks j)

theorem keysQ_bad {ks : List B} {j : Nat} (h : j < ks.length) (hn : ¬ keyAt ks j) : keysQ ks = false := by
  unfold keysQ
  rw [Bool.and_eq_false_iff]
  exact .inr (decide_eq_false fun h' => hn (h' j h))

/-! ### Sets of strings -/
def setOf (l : List B) : List (V × V) := l.map fun k => (V.str k, V.bool true)

theorem find_set (k : B) : ∀ (l : List B) (i : Nat), findKV (.str k) (setOf l) i = if k ∈ l then some (some (i + l.idxOf k, .bool true)) else some none
  | [], i => by simp [setOf, findKV]
  | a :: l, i => by
    have ih := find_set k l (i + 1)
    simp only [setOf, List.map_cons, findKV, keyEq] at ih ⊢
    by_cases h : k = a
    · subst h; simp [List.idxOf_cons]
    · have h' : (k == a) = false := by simp [h]
      rw [h']
      simp only [ih, List.mem_cons, h, false_or]
      by_cases hm : k ∈ l
      · simp [hm, List.idxOf_cons, Ne.symm h, show (a == k) = false by simp [Ne.symm h]]; omega
      · simp [hm]

theorem lookup_set {P : Program} {M : Heap} {t kt et : TypeId} {o : Nat} {l : List B} (k : B) (ht : P.underlying t = some (.map kt et)) (hk : P.underlying kt = some .string) (hz : zeroV P et = some (.bool false)) (hm : M o = some (.map (setOf l))) :
    lookupV P M t (.map o) (.str k) false = some (.bool (decide (k ∈ l))) := by
  simp only [lookupV, ht, hk, mapKVs, hm, keyKind, if_true, find_set, hz]
  by_cases h : k ∈ l <;> simp [h]

theorem setKV_set (k : B) : ∀ (l : List B), k ∉ l → setKV (.str k) (.bool true) (setOf l) = some (setOf (l ++ [k]))
  | [], _ => rfl
  | a :: l, h => by
    simp at h
    have ih := setKV_set k l h.2
    simp only [setOf, List.map_cons, setKV, keyEq, List.cons_append] at ih ⊢
    have h' : (k == a) = false := by simp [h.1]
    rw [h', ih]

theorem mem_take {ks : List B} {j : Nat} (hj : j < ks.length) (k : B) : k ∈ ks.take j ↔ ∃ m, m < j ∧ ks.getD m [] = k := by
  rw [List.mem_take_iff_getElem]
  constructor
  · rintro ⟨m, hm, e⟩
    have hm' : m < ks.length := by omega
    exact ⟨m, by omega, by rw [List.getD_eq_getElem?_getD, List.getElem?_eq_getElem hm']; exact e⟩
  · rintro ⟨m, hm, e⟩
    have hm' : m < ks.length := by omega
    refine ⟨m, by omega, ?_⟩
    rw [List.getD_eq_getElem?_getD, List.getElem?_eq_getElem hm'] at e
    exact e

/-- What was made on the way is forgotten. -/
theorem Spec.forget {P : Program} {f : FuncId} {args : List V} {M : Heap} {r : V} (h : Spec P f args M fun r' M' => r' = r ∧ ∀ o x, M o = some x → M' o = some x) : Pure P f args M r :=
  ⟨h.1, fun E w xs h1 h2 h3 h4 => (h.2 E w xs h1 h2 h3 h4).mono fun e w' ⟨x, r', M', E', k1, ⟨k2, k3⟩, k4, k5, k6⟩ => ⟨x, r', M, E', k1, ⟨k2, rfl⟩, k4, fun o y hy => k5 o y (k3 o y hy), k6⟩⟩
end Go.Eng
