/- Plain definitions and lemmas on bytes and runes. -/
import Derived.Test.YtjcjoeechmlpgaaGreatEC
import Derived.Laws.RangeString
import Derived.IntWalk
namespace Go.Eng
set_option linter.unusedSimpArgs false
set_option linter.unusedVariables false

abbrev B := List UInt8
def vis (b : UInt8) : Bool := decide (33 ≤ b.toNat) && decide (b.toNat ≤ 126)
def tagC (b : UInt8) : Bool := vis b && decide (b.toNat ≠ 34)
def tenC (b : UInt8) : Bool := (decide (97 ≤ b.toNat) && decide (b.toNat ≤ 122)) || (decide (65 ≤ b.toNat) && decide (b.toNat ≤ 90)) || (decide (48 ≤ b.toNat) && decide (b.toNat ≤ 57)) || decide (b.toNat = 95) || decide (b.toNat = 45)
def objectQ (s : B) : Bool := decide (0 < s.length) && decide (s.length ≤ 200) && decide ((s.getD 0 0).toNat = 47) && s.all vis
def tagR (s : B) : Bool := decide (0 < s.length) && decide (s.length ≤ 100) && s.all tagC
def keyQ (s : B) : Bool := decide (0 < s.length) && decide (s.length ≤ 200) && s.all vis
def tenantQ (s : B) : Bool := decide (s.length ≤ 40) && s.all tenC && !(([45] : B).isPrefixOf s)

theorem all_getD {p : UInt8 → Bool} {s : B} (h : s.all p = true) {k : Nat} (hk : k < s.length) : p (s.getD k 0) = true := by
  rw [List.getD_eq_getElem?_getD, List.getElem?_eq_getElem hk]
  exact List.all_eq_true.1 h _ (List.getElem_mem hk)
theorem all_take_succ {p : UInt8 → Bool} {s : B} {k : Nat} (h : (s.take k).all p = true) (hk : k < s.length) (hp : p (s.getD k 0) = true) : (s.take (k + 1)).all p = true := by
  rw [List.getD_eq_getElem?_getD, List.getElem?_eq_getElem hk] at hp
  rw [List.take_succ_eq_append_getElem hk, List.all_append, h]
  simpa using hp
theorem not_all {p : UInt8 → Bool} {s : B} {k : Nat} (hk : k < s.length) (hp : p (s.getD k 0) = false) : s.all p = false := by
  cases h : s.all p with
  | false => rfl
  | true => have := all_getD h hk; rw [hp] at this; cases this
theorem all_done {p : UInt8 → Bool} {s : B} {k : Nat} (h : (s.take k).all p = true) (hk : k ≤ s.length) (hb : decide ((k : Int) < s.length) = false) : s.all p = true := by
  simp at hb
  have : k = s.length := by omega
  subst this
  rwa [List.take_length] at h

/-! ### Runes -/
/-- Where the first rune lies of which p holds, from a place on. -/
def ixf (p : Int → Bool) (s : B) : Nat → Nat → Int
  | 0, _ => -1
  | f + 1, pos => if pos < s.length then (if p (Utf8.decode ⟨⟨s⟩⟩ pos).1 then pos else ixf p s f (pos + (Utf8.decode ⟨⟨s⟩⟩ pos).2)) else -1

theorem byte_get (s : B) (pos : Nat) (h : pos < s.length) : ((⟨⟨s⟩⟩ : ByteArray).get! pos) = s.getD pos 0 := by
  simp [ByteArray.get!, getElem!_pos, h, List.getD_eq_getElem?_getD]

theorem decode_lo (s : B) (pos : Nat) (h : pos < s.length) (ha : (s.getD pos 0).toNat < 128) : Utf8.decode ⟨⟨s⟩⟩ pos = ((s.getD pos 0).toNat, 1) := by
  simp only [Utf8.decode, Nat.add_zero, byte_get s pos h, ha, if_true]

theorem decode_hi (s : B) (pos : Nat) (h : pos < s.length) (ha : 128 ≤ (s.getD pos 0).toNat) : 128 ≤ (Utf8.decode ⟨⟨s⟩⟩ pos).1 ∧ 1 ≤ (Utf8.decode ⟨⟨s⟩⟩ pos).2 ∧ (Utf8.decode ⟨⟨s⟩⟩ pos).1 ≤ 1114111 := by
  have hv : ∀ c, Utf8.valid c = true → c ≤ 1114111 := by intro c hc; unfold Utf8.valid at hc; simp at hc; omega
  have hr : 128 ≤ Utf8.runeError ∧ Utf8.runeError ≤ 1114111 := by decide
  have hn : ¬ (s.getD pos 0).toNat < 128 := by omega
  simp only [Utf8.decode, Nat.add_zero, byte_get s pos h, hn, if_false]
  split
  · split
    · refine ⟨by simpa using ‹_›, by simp, ?_⟩
      simp; omega
    · exact ⟨hr.1, by simp, hr.2⟩
  · split
    · split
      · rename_i hx
        simp only [Bool.and_eq_true, decide_eq_true_eq] at hx
        refine ⟨by have := hx.1; simp at this ⊢; omega, by simp, by have := hv _ hx.2; simp only; omega⟩
      · exact ⟨hr.1, by simp, hr.2⟩
    · split
      · split
        · rename_i hx
          simp only [Bool.and_eq_true, decide_eq_true_eq] at hx
          refine ⟨by have := hx.1; simp at this ⊢; omega, by simp, by have := hv _ hx.2; simp only; omega⟩
        · exact ⟨hr.1, by simp, hr.2⟩
      · exact ⟨hr.1, by simp, hr.2⟩

theorem decode_pos (s : B) (pos : Nat) (h : pos < s.length) : 1 ≤ (Utf8.decode ⟨⟨s⟩⟩ pos).2 := by
  by_cases ha : (s.getD pos 0).toNat < 128
  · rw [decode_lo s pos h ha]; simp
  · exact (decode_hi s pos h (by omega)).2.1

/-- No rune is odd, where every rune that is no plain byte is: no byte is. -/
theorem ixf_neg {p : Int → Bool} (hp : ∀ c : Int, 128 ≤ c → c ≤ 1114111 → p c = true) (s : B) : ∀ (f pos : Nat), s.length ≤ f + pos → (decide (ixf p s f pos < 0) = (s.drop pos).all (fun b => !p b.toNat))
  | 0, pos, h => by
    have : s.drop pos = [] := List.drop_eq_nil_of_le (by omega)
    simp [ixf, this]
  | f + 1, pos, h => by
    simp only [ixf]
    by_cases hlt : pos < s.length
    · simp only [hlt, if_true]
      have hd : s.drop pos = s.getD pos 0 :: s.drop (pos + 1) := by
        rw [List.drop_eq_getElem_cons hlt, List.getD_eq_getElem?_getD, List.getElem?_eq_getElem hlt]; rfl
      rw [hd, List.all_cons]
      by_cases ha : (s.getD pos 0).toNat < 128
      · rw [decode_lo s pos hlt ha]
        cases hq : p ((s.getD pos 0).toNat : Int) with
        | true =>
          have : p (((s.getD pos 0).toNat, 1).1 : Nat) = true := hq
          simp only [this, if_true]
          simp
        | false =>
          have : p (((s.getD pos 0).toNat, 1).1 : Nat) = false := hq
          simp only [this]
          have ih := ixf_neg hp s f (pos + 1) (by omega)
          simpa using ih
      · have h2 := decode_hi s pos hlt (by omega)
        have h3 : p ((Utf8.decode ⟨⟨s⟩⟩ pos).1 : Nat) = true := hp _ (by omega) (by omega)
        have h4 : p ((s.getD pos 0).toNat : Int) = true := hp _ (by omega) (by have := (s.getD pos 0).toNat_lt; omega)
        simp only [h3, if_true, h4]
        simp
    · have : s.drop pos = [] := List.drop_eq_nil_of_le (by omega)
      simp [hlt, this]
end Go.Eng

/- Plain definitions and lemmas: lists of keys, and maps whose keys are strings. -/
namespace Go.Eng
set_option linter.unusedSimpArgs false
set_option linter.unusedVariables false

def sl (ks : List B) : List (List V) := ks.map fun k => [V.str k]
theorem sl_len (ks : List B) : (sl ks).length = ks.length := by simp [sl]
theorem sl_get {ks : List B} {k : Nat} (h : k < ks.length) : (sl ks).getD k [] = [V.str (ks.getD k [])] := by
  simp [sl, List.getD_eq_getElem?_getD, List.getElem?_eq_getElem h]
theorem sl_lens {ks : List B} (h : lensOk [V.lst (sl ks)]) : ks.length ≤ 9223372036854775807 := by
  have := h.1.1
  rw [sl_len] at this
  simpa [maxLen] using this

def unsl : List (List V) → Option (List B)
  | [] => some []
  | [.str k] :: es => match unsl es with
    | some ks => some (k :: ks)
    | none => none
  | _ => none
theorem unsl_sl : ∀ ks : List B, unsl (sl ks) = some ks
  | [] => rfl
  | k :: ks => by
    have ih := unsl_sl ks
    simp only [sl, List.map_cons, unsl] at ih ⊢
    rw [ih]
theorem unsl_eq : ∀ {es : List (List V)} {ks : List B}, unsl es = some ks → es = sl ks
  | [], ks, h => by simp [unsl] at h; subst h; rfl
  | [] :: es, ks, h => by simp [unsl] at h
  | (_ :: _ :: _) :: es, ks, h => by simp [unsl] at h
  | [v] :: es, ks, h => by
    cases v <;> simp [unsl] at h
    split at h <;> simp at h
    rename_i ks' h'
    subst h
    rw [unsl_eq h']
    rfl
theorem unsl_nil : unsl [] = some [] := rfl

def keyAt (ks : List B) (j : Nat) : Prop := keyQ (ks.getD j []) = true ∧ ∀ m, m < j → ks.getD m [] ≠ ks.getD j []
instance (ks : List B) (j : Nat) : Decidable (keyAt ks j) := inferInstanceAs (Decidable (_ ∧ _))
def keysQ (ks : List B) : Bool := decide (ks.length ≤ 32) && decide (∀ j, j < ks.length → keyAt ks j)

theorem keysQ_bad {ks : List B} {j : Nat} (h : j < ks.length) (hn : ¬ keyAt ks j) : keysQ ks = false := by
  unfold keysQ
  rw [Bool.and_eq_false_iff]
  exact .inr (decide_eq_false fun h' => hn (h' j h))

/-! ### Sets of strings -/
def setOf (l : List B) : List (V × V) := l.map fun k => (V.str k, V.bool true)

theorem find_set (k : B) : ∀ (l : List B) (i : Nat), findKV (.str k) (setOf l) i = if k ∈ l then some (some (i + l.idxOf k, .bool true)) else some none
  | [], i => by simp [setOf, findKV]
  | a :: l, i => by
    have ih := find_set k l (i + 1)
    simp only [setOf, List.map_cons, findKV, keyEq] at ih ⊢
    by_cases h : k = a
    · subst h; simp [List.idxOf_cons]
    · have h' : (k == a) = false := by simp [h]
      rw [h']
      simp only [ih, List.mem_cons, h, false_or]
      by_cases hm : k ∈ l
      · simp [hm, List.idxOf_cons, Ne.symm h, show (a == k) = false by simp [Ne.symm h]]; omega
      · simp [hm]

theorem lookup_set {P : Program} {M : Heap} {t kt et : TypeId} {o : Nat} {l : List B} (k : B) (ht : P.underlying t = some (.map kt et)) (hk : P.underlying kt = some .string) (hz : zeroV P et = some (.bool false)) (hm : M o = some (.map (setOf l))) :
    lookupV P M t (.map o) (.str k) false = some (.bool (decide (k ∈ l))) := by
  simp only [lookupV, ht, hk, mapKVs, hm, keyKind, if_true, find_set, hz]
  by_cases h : k ∈ l <;> simp [h]

theorem setKV_set (k : B) : ∀ (l : List B), k ∉ l → setKV (.str k) (.bool true) (setOf l) = some (setOf (l ++ [k]))
  | [], _ => rfl
  | a :: l, h => by
    simp at h
    have ih := setKV_set k l h.2
    simp only [setOf, List.map_cons, setKV, keyEq, List.cons_append] at ih ⊢
    have h' : (k == a) = false := by simp [h.1]
    rw [h', ih]

theorem mem_take {ks : List B} {j : Nat} (hj : j < ks.length) (k : B) : k ∈ ks.take j ↔ ∃ m, m < j ∧ ks.getD m [] = k := by
  rw [List.mem_take_iff_getElem]
  constructor
  · rintro ⟨m, hm, e⟩
    have hm' : m < ks.length := by omega
    exact ⟨m, by omega, by rw [List.getD_eq_getElem?_getD, List.getElem?_eq_getElem hm']; exact e⟩
  · rintro ⟨m, hm, e⟩
    have hm' : m < ks.length := by omega
    refine ⟨m, by omega, ?_⟩
    rw [List.getD_eq_getElem?_getD, List.getElem?_eq_getElem hm'] at e
    exact e

end Go.Eng

/- Plain definitions and lemmas: maps whose keys are strings or numbers, as association lists. -/
namespace Go.Eng
set_option linter.unusedSimpArgs false
set_option linter.unusedVariables false

section
variable {α κ : Type}
def strKV (f : α → V) (l : List (B × α)) : List (V × V) := l.map fun p => (.str p.1, f p.2)
def intKV (f : α → V) (l : List (Int × α)) : List (V × V) := l.map fun p => (.int .i64 p.1, f p.2)
/-- An entry put, where it stands, or behind all. -/
def putA [BEq κ] (k : κ) (a : α) : List (κ × α) → List (κ × α)
  | [] => [(k, a)]
  | (j, b) :: l => if k == j then (k, a) :: l else (j, b) :: putA k a l
def delA [BEq κ] (k : κ) : List (κ × α) → List (κ × α)
  | [] => []
  | (j, b) :: l => if k == j then l else (j, b) :: delA k l

theorem find_str_some {f : α → V} {k : B} {a : α} : ∀ {l : List (B × α)} (i : Nat), l.lookup k = some a → ∃ j, findKV (.str k) (strKV f l) i = some (some (j, f a))
  | [], _, h => by simp at h
  | (j, b) :: l, i, h => by
    simp only [List.lookup] at h
    simp only [strKV, List.map_cons, findKV, keyEq]
    split at h
    · rename_i e; simp only [Option.some.injEq] at h; subst h; simp only [e]; exact ⟨i, rfl⟩
    · rename_i e; simp only [e]; exact find_str_some (i + 1) h
theorem find_str_none {f : α → V} {k : B} : ∀ {l : List (B × α)} (i : Nat), l.lookup k = none → findKV (.str k) (strKV f l) i = some none
  | [], _, h => rfl
  | (j, b) :: l, i, h => by
    simp only [List.lookup] at h
    simp only [strKV, List.map_cons, findKV, keyEq]
    split at h
    · cases h
    · rename_i e; simp only [e]; exact find_str_none (i + 1) h
theorem find_int_some {f : α → V} {k : Int} {a : α} : ∀ {l : List (Int × α)} (i : Nat), l.lookup k = some a → ∃ j, findKV (.int .i64 k) (intKV f l) i = some (some (j, f a))
  | [], _, h => by simp at h
  | (j, b) :: l, i, h => by
    simp only [List.lookup] at h
    simp only [intKV, List.map_cons, findKV, keyEq, if_true]
    split at h
    · rename_i e; simp only [Option.some.injEq] at h; subst h; simp only [e]; exact ⟨i, rfl⟩
    · rename_i e; simp only [e]; exact find_int_some (i + 1) h
theorem find_int_none {f : α → V} {k : Int} : ∀ {l : List (Int × α)} (i : Nat), l.lookup k = none → findKV (.int .i64 k) (intKV f l) i = some none
  | [], _, h => rfl
  | (j, b) :: l, i, h => by
    simp only [List.lookup] at h
    simp only [intKV, List.map_cons, findKV, keyEq, if_true]
    split at h
    · cases h
    · rename_i e; simp only [e]; exact find_int_none (i + 1) h

variable {P : Program} {M : Heap} {t kt et : TypeId} {o : Nat} {k : B} {n : Int} {a : α} {f : α → V} {z : V} {ok : Bool}
theorem look_str_some {l : List (B × α)} (ht : P.underlying t = some (.map kt et)) (hk : P.underlying kt = some .string) (hM : M o = some (.map (strKV f l))) (h : l.lookup k = some a) :
    lookupV P M t (.map o) (.str k) ok = some (if ok then .tup [f a, .bool true] else f a) := by
  obtain ⟨j, hj⟩ := find_str_some (f := f) 0 h
  simp [lookupV, ht, hk, mapKVs, hM, keyKind, hj]
theorem look_str_none {l : List (B × α)} (ht : P.underlying t = some (.map kt et)) (hk : P.underlying kt = some .string) (hz : zeroV P et = some z) (hM : M o = some (.map (strKV f l))) (h : l.lookup k = none) :
    lookupV P M t (.map o) (.str k) ok = some (if ok then .tup [z, .bool false] else z) := by
  simp [lookupV, ht, hk, mapKVs, hM, keyKind, find_str_none (f := f) 0 h, hz]
theorem look_int_some {l : List (Int × α)} (ht : P.underlying t = some (.map kt et)) (hk : P.underlying kt = some (.int .i64)) (hM : M o = some (.map (intKV f l))) (h : l.lookup n = some a) :
    lookupV P M t (.map o) (.int .i64 n) ok = some (if ok then .tup [f a, .bool true] else f a) := by
  obtain ⟨j, hj⟩ := find_int_some (f := f) 0 h
  simp [lookupV, ht, hk, mapKVs, hM, keyKind, hj]
theorem look_int_none {l : List (Int × α)} (ht : P.underlying t = some (.map kt et)) (hk : P.underlying kt = some (.int .i64)) (hz : zeroV P et = some z) (hM : M o = some (.map (intKV f l))) (h : l.lookup n = none) :
    lookupV P M t (.map o) (.int .i64 n) ok = some (if ok then .tup [z, .bool false] else z) := by
  simp [lookupV, ht, hk, mapKVs, hM, keyKind, find_int_none (f := f) 0 h, hz]

theorem set_str {f : α → V} (k : B) (a : α) : ∀ l : List (B × α), setKV (.str k) (f a) (strKV f l) = some (strKV f (putA k a l))
  | [] => rfl
  | (j, b) :: l => by
    have ih := set_str (f := f) k a l
    simp only [strKV, List.map_cons, setKV, keyEq, putA] at ih ⊢
    cases h : (k == j) <;> simp [h, ih]
theorem set_int {f : α → V} (k : Int) (a : α) : ∀ l : List (Int × α), setKV (.int .i64 k) (f a) (intKV f l) = some (intKV f (putA k a l))
  | [] => rfl
  | (j, b) :: l => by
    have ih := set_int (f := f) k a l
    simp only [intKV, List.map_cons, setKV, keyEq, putA, if_true] at ih ⊢
    cases h : (k == j) <;> simp [h, ih]
theorem del_int {f : α → V} (k : Int) : ∀ l : List (Int × α), delKV (.int .i64 k) (intKV f l) = some (intKV f (delA k l))
  | [] => rfl
  | (j, b) :: l => by
    have ih := del_int (f := f) k l
    simp only [intKV, List.map_cons, delKV, keyEq, delA, if_true] at ih ⊢
    cases h : (k == j) <;> simp [h, ih]
end
end Go.Eng
