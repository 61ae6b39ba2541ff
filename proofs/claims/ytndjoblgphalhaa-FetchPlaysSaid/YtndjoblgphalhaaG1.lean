/- Plain definitions and lemmas on bytes and runes. -/
import Derived.Test.YtndjoblgphalhaaE18
import Derived.Laws.RangeString
import Derived.IntWalk
namespace Go.Eng
set_option linter.unusedSimpArgs false
set_option linter.unusedVariables false

abbrev B := List UInt8
def vis (b : UInt8) : Bool := decide (33 ≤ b.toNat) && decide (b.toNat ≤ 126)
def tagC (b : UInt8) : Bool := vis b && decide (b.toNat ≠ 34)
def tenC (b : UInt8) : Bool := (decide (97 ≤ b.toNat) && decide (b.toNat ≤ 122)) || (decide (65 ≤ b.toNat) && decide (b.toNat ≤ 90)) || (decide (48 ≤ b.toNat) && decide (b.toNat ≤ 57)) || decide (b.toNat = 95) || decide (b.toNat = 45)
def objectQ (s : B) : Bool := decide (0 < s.length) && decide (s.length ≤ 200) && decide ((s.getD 0 0).toNat = 47) && s.all vis
def tagR (s : B) : Bool := decide (0 < s.length) && decide (s.length ≤ 100) && s.all tagC
def keyQ (s : B) : Bool := decide (0 < s.length) && decide (s.length ≤ 200) && s.all vis
def tenantQ (s : B) : Bool := decide (s.length ≤ 40) && s.all tenC && !(([45] : B).isPrefixOf s)

theorem all_getD {p : UInt8 → Bool} {s : B} (h : s.all p = true) {k : Nat} (hk : k < s.length) : p (s.getD k 0) = true := by
  rw [List.getD_eq_getElem?_getD, List.getElem?_eq_getElem hk]
  exact List.all_eq_true.1 h _ (List.getElem_mem hk)
theorem all_take_succ {p : UInt8 → Bool} {s : B} {k : Nat} (h : (s.take k).all p = true) (hk : k < s.length) (hp : p (s.getD k 0) = true) : (s.take (k + 1)).all p = true := by
  rw [List.getD_eq_getElem?_getD, List.getElem?_eq_getElem hk] at hp
  rw [List.take_succ_eq_append_getElem hk, List.all_append, h]
  simpa using hp
theorem not_all {p : UInt8 → Bool} {s : B} {k : Nat} (hk : k < s.length) (hp : p (s.getD k 0) = false) : s.all p = false := by
  cases h : s.all p with
  | false => rfl
  | true => have := all_getD h hk; rw [hp] at this; cases this
theorem all_done {p : UInt8 → Bool} {s : B} {k : Nat} (h : (s.take k).all p = true) (hk : k ≤ s.length) (hb : decide ((k : Int) < s.length) = false) : s.all p = true := by
  simp at hb
  have : k = s.length := by omega
  subst this
  rwa [List.take_length] at h

/-! ### Runes -/
/-- Where the first rune lies of which p holds, from a place on. -/
def ixf (p : Int → Bool) (s : B) : Nat → Nat → Int
  | 0, _ => -1
  | f + 1, pos => if pos < s.length then (if p (Utf8.decode ⟨⟨s⟩⟩ pos).1 then pos else ixf p s f (pos + (Utf8.decode ⟨⟨s⟩⟩ pos).2)) else -1

theorem byte_get (s : B) (pos : Nat) (h : pos < s.length) : ((⟨⟨s⟩⟩ : ByteArray).get! pos) = s.getD pos 0 := by
  simp [ByteArray.get!, getElem!_pos, h, List.getD_eq_getElem?_getD]

theorem decode_lo (s : B) (pos : Nat) (h : pos < s.length) (ha : (s.getD pos 0).toNat < 128) : Utf8.decode ⟨⟨s⟩⟩ pos = ((s.getD pos 0).toNat, 1) := by
  simp only [Utf8.decode, Nat.add_zero, byte_get s pos h, ha, if_true]

theorem decode_hi (s : B) (pos : Nat) (h : pos < s.length) (ha : 128 ≤ (s.getD pos 0).toNat) : 128 ≤ (Utf8.decode ⟨⟨s⟩⟩ pos).1 ∧ 1 ≤ (Utf8.decode ⟨⟨s⟩⟩ pos).2 ∧ (Utf8.decode ⟨⟨s⟩⟩ pos).1 ≤ 1114111 := by
  have hv : ∀ c, Utf8.valid c = true → c ≤ 1114111 := by intro c hc; unfold Utf8.valid at hc; simp at hc; omega
  have hr : 128 ≤ Utf8.runeError ∧ Utf8.runeError ≤ 1114111 := by decide
  have hn : ¬ (s.getD pos 0).toNat < 128 := by omega
  simp only [Utf8.decode, Nat.add_zero, byte_get s pos h, hn, if_false]
  split
  · split
    · refine ⟨by simpa using ‹_›, by simp, ?_⟩
      simp; omega
    · exact ⟨hr.1, by simp, hr.2⟩
  · split
    · split
      · rename_i hx
        simp only [Bool.and_eq_true, decide_eq_true_eq] at hx
        refine ⟨by have := hx.1; simp at this ⊢; omega, by simp, by have := hv _ hx.2; simp only; omega⟩
      · exact ⟨hr.1, by simp, hr.2⟩
    · split
      · split
        · rename_i hx
          simp only [Bool.and_eq_true, decide_eq_true_eq] at hx
          refine ⟨by have := hx.1; simp at this ⊢; omega, by simp, by have := hv _ hx.2; simp only; omega⟩
        · exact ⟨hr.1, by simp, hr.2⟩
      · exact ⟨hr.1, by simp, hr.2⟩

theorem decode_pos (s : B) (pos : Nat) (h : pos < s.length) : 1 ≤ (Utf8.decode ⟨⟨s⟩⟩ pos).2 := by
  by_cases ha : (s.getD pos 0).toNat < 128
  · rw [decode_lo s pos h ha]; simp
  · exact (decode_hi s pos h (by omega)).2.1

/-- No rune is odd, where every rune that is no plain byte is: no byte is. -/
theorem ixf_neg {p : Int → Bool} (hp : ∀ c : Int, 128 ≤ c → c ≤ 1114111 → p c = true) (s : B) : ∀ (f pos : Nat), s.length ≤ f + pos → (decide (ixf p s f pos < 0) = (s.drop pos).all (fun b => !p b.toNat))
  | 0, pos, h => by
    have : s.drop pos = [] := List.drop_eq_nil_of_le (by omega)
    simp [ixf, this]
  | f + 1, pos, h => by
    simp only [ixf]
    by_cases hlt : pos < s.length
    · simp only [hlt, if_true]
      have hd : s.drop pos = s.getD pos 0 :: s.drop (pos + 1) := by
        rw [List.drop_eq_getElem_cons hlt, List.getD_eq_getElem?_getD, List.getElem?_eq_getElem hlt]; rfl
      rw [hd, List.all_cons]
      by_cases ha : (s.getD pos 0).toNat < 128
      · rw [decode_lo s pos hlt ha]
        cases hq : p ((s.getD pos 0).toNat : Int) with
        | true =>
          have : p (((s.getD pos 0).toNat, 1).1 : Nat) = true := hq
          simp only [this, if_true]
          simp
        | false =>
          have : p (((s.getD pos 0).toNat, 1).1 : Nat) = false := hq
          simp only [this]
          have ih := ixf_neg hp s f (pos + 1) (by omega)
          simpa using ih
      · have h2 := decode_hi s pos hlt (by omega)
        have h3 : p ((Utf8.decode ⟨⟨s⟩⟩ pos).1 : Nat) = true := hp _ (by omega) (by omega)
        have h4 : p ((s.getD pos 0).toNat : Int) = true := hp _ (by omega) (by have := (s.getD pos 0).toNat_lt; omega)
        simp only [h3, if_true, h4]
        simp
    · have : s.drop pos = [] := List.drop_eq_nil_of_le (by omega)
      simp [hlt, this]
end Go.Eng
