/- The engine, part 11: a region that draws its order: the order of the text stands for every order. -/
import Derived.Test.YtndjoblgphalhaaE10
namespace Go.Eng
set_option linter.unusedSimpArgs false
set_option linter.unusedVariables false

/-! ### Orders, whatever the operations are -/
section order
variable {S : Type} {ops : Array Oper} {T : Nat → (S → Prop) → S → Prop} {K : S → Prop}

/-- Whatever order is picked from here on. -/
def anyA (ops : Array Oper) (T : Nat → (S → Prop) → S → Prop) (K : S → Prop) : Nat → Array Bool → S → Prop
  | 0, listed, s => Region.ready .any ops listed = [] ∧ K s
  | fuel + 1, listed, s => (Region.ready .any ops listed = [] → K s) ∧ ∀ i ∈ Region.ready .any ops listed, T i (anyA ops T K fuel (listed.setIfInBounds i true)) s

/-- Two operations may change places. -/
def Swap (T : Nat → (S → Prop) → S → Prop) (i j : Nat) : Prop := ∀ (K : S → Prop) s, T i (T j K) s → T j (T i K) s

theorem anyA_first (mono : ∀ i (K K' : S → Prop) s, (∀ s, K s → K' s) → T i K s → T i K' s) (real : ∀ i s, ¬ T i (fun _ => False) s) {i : Nat} {D : Nat → Bool}
    (hD2 : ∀ j oj, ops[j]? = some oj → D j = true → ∃ e ∈ oj.after, Region.binds .any e = true ∧ (e.on = i ∨ D e.on = true)) :
    ∀ (fuel : Nat) (listed : Array Bool) (s : S), (∀ j, D j = true → listed.getD j true = false) →
      (∀ j oj, ops[j]? = some oj → j ≠ i → listed.getD j true = false → D j = false → Swap T i j) →
      i ∈ Region.ready .any ops listed → T i (anyA ops T K fuel (listed.setIfInBounds i true)) s → anyA ops T K (fuel + 1) listed s := by
  intro fuel
  induction fuel with
  | zero =>
    intro listed s _ _ hr H
    refine ⟨fun h => (by rw [h] at hr; cases hr), fun j hj => ?_⟩
    by_cases hji : j = i
    · subst hji; exact H
    · exfalso
      have hj' := ready_mono hj hji
      refine real i s (mono i _ _ s (fun s' h' => ?_) H)
      rw [h'.1] at hj'
      cases hj'
  | succ fuel ih =>
    intro listed s hD1 hfree hr H
    refine ⟨fun h => (by rw [h] at hr; cases hr), fun j hj => ?_⟩
    by_cases hji : j = i
    · subst hji; exact H
    · have hj' := ready_mono hj hji
      have H1 : T i (T j (anyA ops T K fuel ((listed.setIfInBounds i true).setIfInBounds j true))) s := mono i _ _ s (fun s' h' => h'.2 j hj') H
      obtain ⟨hjun, oj, hoj, hall⟩ := mem_ready.1 hj
      have hDj : D j = false := by
        cases hq : D j with
        | false => rfl
        | true =>
          exfalso
          obtain ⟨e, he, hb, h⟩ := hD2 j oj hoj hq
          have h1 := hall e he hb
          have h0 : listed.getD e.on true = false := by
            rcases h with h | h
            · rw [h]; exact (mem_ready.1 hr).1
            · exact hD1 _ h
          rcases Nat.lt_or_ge e.on listed.size with h' | h'
          · simp [h'] at h0 h1; rw [h0] at h1; cases h1
          · simp [Array.getElem?_eq_none h'] at h1
      have H2 := hfree j oj hoj hji hjun hDj _ _ H1
      have hne : ∀ k, D k = true → j ≠ k := fun k hk e => by subst e; rw [hDj] at hk; cases hk
      have hD1' : ∀ k, D k = true → (listed.setIfInBounds j true).getD k true = false := fun k hk => by
        rw [getD_set_ne true (hne k hk)]; exact hD1 k hk
      have hfree' : ∀ k ok, ops[k]? = some ok → k ≠ i → (listed.setIfInBounds j true).getD k true = false → D k = false → Swap T i k := fun k ok hk hki hun hno => by
        refine hfree k ok hk hki ?_ hno
        by_cases hjk : j = k
        · subst hjk; exact hjun
        · rw [getD_set_ne true hjk] at hun; exact hun
      refine mono j _ _ s (fun s' h' => ih (listed.setIfInBounds j true) s' hD1' hfree' (ready_mono hr (Ne.symm hji)) ?_) H2
      rw [Array.setIfInBounds_comm _ _ hji]
      exact h'

/-- What waits for operation k, through others too. -/
def descs (ops : Array Oper) (k : Nat) : List Nat :=
  (List.range ops.size).foldl (fun acc j => if ((ops[j]?).map fun oj => oj.after.any fun e => Region.binds .any e && (e.on == k || acc.contains e.on)).getD false then j :: acc else acc) []

/-- The order of the text fits: each operation may come up when all ahead of it have; those that needn't wait for it may change places with it. -/
def lexA (ops : Array Oper) (ind : Nat → Nat → Bool) : Nat → Nat → Array Bool → Bool
  | 0, _, listed => (Region.ready .any ops listed).isEmpty
  | f + 1, k, listed =>
    (Region.ready .any ops listed).contains k &&
    ((descs ops k).all fun d => !(listed.getD d true) && ((ops[d]?).map fun od => od.after.any fun e => Region.binds .any e && (e.on == k || (descs ops k).contains e.on)).getD false) &&
    ((List.range ops.size).all fun j => j == k || listed.getD j true || (descs ops k).contains j || ind k j) &&
    lexA ops ind f (k + 1) (listed.setIfInBounds k true)

def seqT (T : Nat → (S → Prop) → S → Prop) (K : S → Prop) : Nat → Nat → S → Prop
  | 0, _, s => K s
  | f + 1, k, s => T k (seqT T K f (k + 1)) s

theorem anyA_lex (mono : ∀ i (K K' : S → Prop) s, (∀ s, K s → K' s) → T i K s → T i K' s) (real : ∀ i s, ¬ T i (fun _ => False) s) {ind : Nat → Nat → Bool} (hind : ∀ i j, ind i j = true → Swap T i j) :
    ∀ (f k : Nat) (listed : Array Bool) (s : S), lexA ops ind f k listed = true → seqT T K f k s → anyA ops T K f listed s
  | 0, k, listed, s, hB, h => ⟨by simpa [lexA] using hB, h⟩
  | f + 1, k, listed, s, hB, h => by
    simp only [lexA, Bool.and_eq_true] at hB
    obtain ⟨⟨⟨h1, hd⟩, h2⟩, h3⟩ := hB
    have hd' := fun d (hm : (descs ops k).contains d = true) => List.all_eq_true.1 hd d (by simpa using hm)
    refine anyA_first mono real (D := fun j => (descs ops k).contains j) (fun j oj hj hm => ?_) f listed s (fun j hm => ?_) (fun j oj hj hne hun hnw => hind k j ?_) (by simpa using h1) (mono k _ _ s (fun s' h' => anyA_lex mono real hind f (k + 1) _ s' h3 h') h)
    · have := hd' j hm
      simp only [Bool.and_eq_true, hj, Option.map_some, Option.getD_some, Array.any_eq_true'] at this
      obtain ⟨e, he, hb⟩ := this.2
      simp only [Bool.and_eq_true, Bool.or_eq_true, beq_iff_eq] at hb
      exact ⟨e, he, hb.1, hb.2⟩
    · have := hd' j hm
      simp only [Bool.and_eq_true] at this
      simpa using this.1
    have hlt : j < ops.size := by
      rcases Nat.lt_or_ge j ops.size with h | h
      · exact h
      · simp [Array.getElem?_eq_none h] at hj
    have := List.all_eq_true.1 h2 j (List.mem_range.2 hlt)
    simp only [Bool.or_eq_true, beq_iff_eq] at this
    rcases this with ((h | h) | h) | h
    · exact absurd h hne
    · rw [hun] at h; cases h
    · rw [hnw] at h; cases h
    · exact h
end order

theorem wpAny_of_anyA {P : Program} {ops : Array Oper} {T : Nat → (St → Prop) → St → Prop} {K : St → Prop} {Q : Exit → Act → World → Prop} {E0 : Env} {w0 : World} {n : Nat}
    (hT : ∀ i (K : St → Prop) E w st a, RSt E0 w0 n E w st a → T i K st → wpOp P ops Q i (Nxt E0 w0 n K) a w) (hq : ∀ a w, Nxt E0 w0 n K a w → Q .normal a w) :
    ∀ (fuel : Nat) (listed : Array Bool) (E : Env) (w : World) (st : St) (a : Act), RSt E0 w0 n E w st a → anyA ops T K fuel listed st → wpAny P .any ops Q fuel listed a w
  | 0, listed, E, w, st, a, h, hk => ⟨hk.1, hq _ _ ⟨E, st, h, hk.2⟩⟩
  | fuel + 1, listed, E, w, st, a, h, hk => ⟨fun h0 => hq _ _ ⟨E, st, h, hk.1 h0⟩, fun i hi => wpOp_mono (fun a' w' ⟨E', st', h', hk'⟩ => wpAny_of_anyA hT hq fuel _ E' w' st' a' h' hk') (hT i _ E w st a h (hk.2 i hi))⟩
end Go.Eng
