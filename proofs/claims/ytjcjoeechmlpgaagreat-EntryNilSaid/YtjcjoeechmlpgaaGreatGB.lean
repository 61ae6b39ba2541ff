/- The lift: arguments that read as data stand for abstract values; from a contract to the row of a law. -/
import Derived.Test.YtjcjoeechmlpgaaGreatEC
import Derived.ProofKit
import Derived.SizedLaws
import Derived.ChangeAgain
namespace Go.Eng
open Go.ChangeShapes Go.WideShapes Go.ChangeAt Go.RowKit
set_option linter.unusedSimpArgs false
set_option linter.unusedVariables false

/-- The kinds of a value's cells. -/
inductive Leaf where
  | bool
  | int (k : IntKind)
  | str
  | slice (ls : List Leaf)

mutual
def LeafV : Leaf → V → Prop
  | .bool, v => ∃ b, v = .bool b
  | .int k, v => ∃ n, v = .int k n ∧ (Lit.int k n).wf = true
  | .str, v => ∃ s, v = .str s ∧ s.length ≤ maxLen
  | .slice ls, v => ∃ es, v = .lst es ∧ es.length ≤ maxLen ∧ ∀ e ∈ es, LeafsV ls e
def LeafsV : List Leaf → List V → Prop
  | [], vs => vs = []
  | l :: ls, vs => ∃ u us, vs = u :: us ∧ LeafV l u ∧ LeafsV ls us
end

def leafFs (g : TypeId → Option (List Leaf)) (sz : TypeId → Nat) : List Field → Nat → Option (List Leaf)
  | [], _ => some []
  | f :: fs, off =>
    if f.offset = off then
      match g f.type with
      | some ls => if ls.length = sz f.type then
          match leafFs g sz fs (off + ls.length) with
          | some r => some (ls ++ r)
          | none => none
        else none
      | none => none
    else none

def leafs (P : Program) : Nat → TypeId → Option (List Leaf)
  | 0, _ => none
  | d + 1, t =>
    match P.underlying t with
    | some .bool => some [.bool]
    | some (.int k) => some [.int k]
    | some .string => some [.str]
    | some (.slice e) =>
      match leafs P d e with
      | some ls => if ls.length = P.cellsOf e ∧ ls ≠ [] then some [.slice ls] else none
      | none => none
    | some (.struct fs) =>
      match leafFs (leafs P d) P.cellsOf fs.toList 0 with
      | some ls => if ls.length = P.cellsOf t then some ls else none
      | none => none
    | _ => none

theorem LeafsV.append : ∀ {ls ls' : List Leaf} {vs us : List V}, LeafsV ls vs → LeafsV ls' us → LeafsV (ls ++ ls') (vs ++ us)
  | [], ls', vs, us, h, k => by simp only [LeafsV] at h; subst h; simpa using k
  | l :: ls, ls', vs, us, h, k => by
    simp only [LeafsV] at h
    obtain ⟨u, vs, rfl, h1, h2⟩ := h
    simp only [List.cons_append, LeafsV]
    exact ⟨u, _, rfl, h1, LeafsV.append h2 k⟩

theorem LeafsV.length : ∀ {ls : List Leaf} {vs : List V}, LeafsV ls vs → vs.length = ls.length
  | [], vs, h => by simp only [LeafsV] at h; subst h; rfl
  | l :: ls, vs, h => by
    simp only [LeafsV] at h
    obtain ⟨u, vs, rfl, h1, h2⟩ := h
    simp [LeafsV.length h2]

section
variable {H : Type} {enc : TypeId × Value → H} {P : Program} {E : Env} {w : World} {spare : Nat → Bool} {held : Bool}

theorem mapM_get {α β : Type} {f : α → Option β} : ∀ {l : List α} {r : List β}, l.mapM f = some r → r.length = l.length ∧ ∀ (i : Nat) (a : α), l[i]? = some a → ∃ x : β, r[i]? = some x ∧ f a = some x
  | [], r, h => by simp at h; subst h; simp
  | a :: l, r, h => by
    rw [List.mapM_cons] at h
    cases ha : f a with
    | none => simp [ha] at h
    | some b =>
      cases hl : l.mapM f with
      | none => simp [ha, hl] at h
      | some bs =>
        simp [ha, hl] at h
        subst h
        obtain ⟨h1, h2⟩ := mapM_get hl
        refine ⟨by simp [h1], fun i c hi => ?_⟩
        cases i with
        | zero => simp at hi; subst hi; exact ⟨b, rfl, ha⟩
        | succ i => simpa using h2 i c (by simpa using hi)

theorem mapM_range {α : Type} {f : Nat → Option α} {n : Nat} {l : List α} (h : (List.range n).mapM f = some l) : l.length = n ∧ ∀ i, i < n → ∃ x, l[i]? = some x ∧ f i = some x := by
  obtain ⟨h1, h2⟩ := mapM_get h
  exact ⟨by simpa using h1, fun i hi => h2 i i (by simp [hi])⟩

theorem mapM_some_mem {α β : Type} {f : α → Option β} : ∀ {l : List α} {r : List β}, l.mapM f = some r → ∀ x ∈ l, ∃ y, f x = some y
  | [], _, _, x, hx => by cases hx
  | a :: l, r, h, x, hx => by
    rw [List.mapM_cons] at h
    cases ha : f a with
    | none => simp [ha] at h
    | some b =>
      cases hl : l.mapM f with
      | none => simp [ha, hl] at h
      | some bs =>
        rcases List.mem_cons.1 hx with rfl | hx
        · exact ⟨b, ha⟩
        · exact mapM_some_mem hl x hx

theorem RM_of_list : ∀ {vs : List V} {xs : List Value} {b off : Nat}, RL E w vs xs → (∀ j x, xs[j]? = some x → w.cell? ⟨b, off + j, none⟩ = some x) → RM E w vs b off
  | [], xs, b, off, _, _ => by simp [RM]
  | v :: vs, xs, b, off, h, k => by
    simp only [RL] at h
    obtain ⟨y, ys, rfl, h1, h2⟩ := h
    simp only [RM]
    refine ⟨⟨y, by simpa using k 0 y rfl, h1⟩, RM_of_list h2 fun j x hj => ?_⟩
    have := k (j + 1) x (by simpa using hj)
    rwa [show off + 1 + j = off + (j + 1) by omega]

theorem cells_read {a : Addr} {n : Nat} {xs : List Value} (h : w.cells? 0 a n = some xs) (hn : 0 < n) : xs.length = n ∧ a.spot = none ∧ a.block < w.heap.size ∧ ∀ j x, xs[j]? = some x → w.cell? ⟨a.block, a.off + j, none⟩ = some x := by
  unfold World.cells? at h
  simp only [Nat.zero_le, if_true] at h
  obtain ⟨hl, hx⟩ := mapM_range h
  have key : ∀ i, i < n → ∃ x, xs[i]? = some x ∧ w.cell? ⟨a.block, a.off + i, none⟩ = some x ∧ a.block < w.heap.size ∧ (i = 0 → a.spot = none) := by
    intro i hi
    obtain ⟨x, h1, h2⟩ := hx i hi
    have hb : a.block < w.heap.size := by
      rcases Nat.lt_or_ge a.block w.heap.size with hb | hb
      · exact hb
      · have hbl : (a.add i).block = a.block := by unfold Addr.add; split <;> rfl
        unfold World.cell? at h2
        rw [hbl, Array.getElem?_eq_none hb] at h2
        cases h2
    refine ⟨x, h1, ?_, hb, fun h0 => ?_⟩
    · unfold Addr.add at h2
      split at h2
      · rename_i h0
        subst h0
        unfold World.cell? at h2 ⊢
        split at h2 <;> rename_i he
        · split at h2
          · cases h2
          · simp only [he]; simpa using h2
        · cases h2
      · exact h2
    · subst h0
      unfold World.cell? Addr.add at h2
      simp only [if_true] at h2
      split at h2
      · split at h2
        · cases h2
        · rename_i hs; simpa using hs
      · cases h2
  refine ⟨hl, ?_, ?_, ?_⟩
  · obtain ⟨_, _, _, _, h⟩ := key 0 hn; exact h rfl
  · obtain ⟨_, _, _, h, _⟩ := key 0 hn; exact h
  · intro j x hj
    have hj' : j < n := by
      have := (List.getElem?_eq_some_iff.1 hj).1; omega
    obtain ⟨x', h1, h2, _⟩ := key j hj'
    rw [hj] at h1
    cases h1
    exact h2

theorem RE_of (hE : ∀ b, ¬ E.own b) {ls : List Leaf} {sz b off : Nat} (hsz : ls.length = sz) : ∀ (n : Nat) (k : Nat), (∀ i, i < n → ∃ vs, RM E w vs b (off + (k + i) * sz) ∧ LeafsV ls vs) → ∃ es : List (List V), es.length = n ∧ RE E w es b (off + k * sz) sz ∧ ∀ e ∈ es, LeafsV ls e
  | 0, k, _ => ⟨[], rfl, by simp [RE], by simp⟩
  | n + 1, k, h => by
    obtain ⟨vs, h1, h2⟩ := h 0 (by omega)
    obtain ⟨es, h3, h4, h5⟩ := RE_of hE hsz n (k + 1) (fun i hi => by
      obtain ⟨vs, g1, g2⟩ := h (i + 1) (by omega)
      exact ⟨vs, by rw [show k + 1 + i = k + (i + 1) by omega]; exact g1, g2⟩)
    refine ⟨vs :: es, by simp [h3], ?_, by simpa using ⟨h2, h5⟩⟩
    simp only [RE]
    refine ⟨by rw [h2.length, hsz], by simpa using h1, ?_⟩
    rw [show off + k * sz + sz = off + (k + 1) * sz by rw [Nat.succ_mul]; omega]
    exact h4

theorem trod_read (hE : ∀ b, ¬ E.own b) : ∀ (d : Nat) (t : TypeId) (ls : List Leaf), leafs P d t = some ls → ∀ (fuel : Nat) (cs : List Value) (x : DataW H × List MemPlace),
    DataW.trod enc P w 0 spare held fuel t cs = some x → ∃ vs, RL E w vs cs ∧ LeafsV ls vs
  | 0, t, ls, h, _, _, _, _ => by simp [leafs] at h
  | d + 1, t, ls, h, 0, cs, x, hx => by simp [DataW.trod] at hx
  | d + 1, t, ls, h, fuel + 1, cs, x, hx => by
    unfold leafs at h
    unfold DataW.trod at hx
    split at h
    · rename_i hu
      cases h
      rw [hu] at hx
      match cs, hx with
      | [.bool b], _ => exact ⟨[.bool b], by simp [RL, R], by simp [LeafsV, LeafV]⟩
    · rename_i k hu
      cases h
      rw [hu] at hx
      match cs, hx with
      | [.int k' n], hx =>
        simp only at hx
        split at hx <;> try (cases hx; done)
        rename_i hk
        obtain ⟨rfl, hk⟩ := hk
        exact ⟨[.int k' n], by simp [RL, R], by simp [LeafsV, LeafV, hk]⟩
    · rename_i hu
      cases h
      rw [hu] at hx
      match cs, hx with
      | [.string s], hx =>
        simp only at hx
        split at hx <;> try (cases hx; done)
        rename_i hs
        have hs' : s.data.toList.length ≤ maxLen := hs
        refine ⟨[.str s.data.toList], ?_, ?_⟩
        · simp only [RL, R]; exact ⟨_, [], rfl, ⟨rfl, hs'⟩, rfl⟩
        · simp only [LeafsV, LeafV]; exact ⟨_, [], rfl, ⟨_, rfl, hs'⟩, rfl⟩
    · rename_i e hu
      split at h <;> try (cases h; done)
      rename_i ls0 hls
      split at h <;> try (cases h; done)
      rename_i hsz
      cases h
      rw [hu] at hx
      match cs, hx with
      | [.slice none 0 0], _ => exact ⟨[.lst []], by unfold RL RL R; exact ⟨_, [], rfl, ⟨none, 0, rfl, Nat.le_refl _, Nat.zero_le _, .inl rfl⟩, rfl⟩, by simp [LeafsV, LeafV]⟩
      | [.slice (some a) len cap], hx =>
        simp only at hx
        split at hx <;> try (cases hx; done)
        rename_i hc
        simp only [Option.bind_eq_some_iff] at hx
        obtain ⟨elems, hel, _⟩ := hx
        obtain ⟨hlen, hget⟩ := mapM_range hel
        have hpos : 0 < P.cellsOf e := by
          rw [← hsz.1]; exact List.length_pos_iff.2 hsz.2
        have hread : ∀ i, i < len → ∃ xs vs, w.cells? 0 (a.add (i * P.cellsOf e)) (P.cellsOf e) = some xs ∧ RL E w vs xs ∧ LeafsV ls0 vs := by
          intro i hi
          obtain ⟨y, _, hy⟩ := hget i hi
          rw [Option.bind_eq_some_iff] at hy
          obtain ⟨xs, h1, h2⟩ := hy
          obtain ⟨vs, h3, h4⟩ := trod_read hE d e ls0 hls fuel xs y h2
          exact ⟨xs, vs, h1, h3, h4⟩
        rcases Nat.eq_zero_or_pos len with h0 | h0
        · subst h0
          refine ⟨[.lst []], ?_, by simp [LeafsV, LeafV]⟩
          unfold RL RL R
          exact ⟨_, [], rfl, ⟨some a, cap, rfl, by simp, hc.2.2, .inl rfl⟩, rfl⟩
        · have hfirst := hread 0 h0
          obtain ⟨xs0, _, hc0, _, _⟩ := hfirst
          obtain ⟨_, hspot, hblk, _⟩ := cells_read hc0 hpos
          have hadd0 : a.add (0 * P.cellsOf e) = a := by simp [Addr.add]
          rw [hadd0] at hspot hblk
          have ha : ∀ n, a.add n = ⟨a.block, a.off + n, none⟩ := by
            intro n
            unfold Addr.add
            split
            · rename_i h0; subst h0; obtain ⟨b, o, s⟩ := a; simp at hspot; subst hspot; rfl
            · rfl
          obtain ⟨es, h1, h2, h3⟩ := RE_of (E := E) (w := w) hE (ls := ls0) (b := a.block) (off := a.off) hsz.1 len 0 (fun i hi => by
            obtain ⟨xs, vs, g1, g2, g3⟩ := hread i hi
            obtain ⟨_, _, _, g4⟩ := cells_read g1 hpos
            rw [ha] at g4
            exact ⟨vs, RM_of_list g2 (by simpa using g4), g3⟩)
          refine ⟨[.lst es], ?_, ?_⟩
          · simp only [RL, R]
            refine ⟨_, [], rfl, ⟨some a, cap, by rw [h1], by rw [h1]; exact hc.2.1, hc.2.2, .inr ⟨a.block, a.off, P.cellsOf e, ?_, hblk, hE _, by simpa using h2⟩⟩, rfl⟩
            have := ha 0
            simpa [Addr.add] using this
          · simp only [LeafsV, LeafV]
            exact ⟨_, [], rfl, ⟨es, rfl, by rw [h1]; exact Nat.le_trans hc.2.1 hc.2.2, h3⟩, rfl⟩
    · rename_i fs hu
      split at h <;> try (cases h; done)
      rename_i ls0 hls
      split at h <;> try (cases h; done)
      rename_i hsz
      cases h
      rw [hu] at hx
      simp only at hx
      have hx2 : cs.length = P.cellsOf t ∧ ∃ xs, fs.toList.mapM (fun f => DataW.trod enc P w 0 spare held fuel f.type ((cs.drop f.offset).take (P.cellsOf f.type))) = some xs := by
        revert hx
        match cs with
        | cs =>
          intro hx
          split at hx <;> try (cases hx; done)
          rename_i hl
          rw [Option.map_eq_some_iff] at hx
          obtain ⟨xs, h1, _⟩ := hx
          exact ⟨hl, xs, h1⟩
      obtain ⟨hl, xs, hm⟩ := hx2
      have hmem := mapM_some_mem hm
      have key : ∀ (l : List Field) (off : Nat) (ls : List Leaf), leafFs (leafs P d) P.cellsOf l off = some ls → (∀ f ∈ l, ∃ y, DataW.trod enc P w 0 spare held fuel f.type ((cs.drop f.offset).take (P.cellsOf f.type)) = some y) →
          off + ls.length ≤ cs.length → ∃ vs, RL E w vs ((cs.drop off).take ls.length) ∧ LeafsV ls vs := by
        intro l
        induction l with
        | nil =>
          intro off ls h _ _
          simp only [leafFs, Option.some.injEq] at h
          subst h
          exact ⟨[], by simp [RL], by simp [LeafsV]⟩
        | cons f l ih =>
          intro off ls h hm hle
          unfold leafFs at h
          split at h <;> try (cases h; done)
          rename_i hoff
          split at h <;> try (cases h; done)
          rename_i l1 hl1
          split at h <;> try (cases h; done)
          rename_i hn1
          split at h <;> try (cases h; done)
          rename_i l2 hl2
          cases h
          obtain ⟨y, hy⟩ := hm f (by simp)
          rw [hoff, ← hn1] at hy
          obtain ⟨v1, a1, a2⟩ := trod_read hE d f.type l1 hl1 fuel _ y hy
          simp only [List.length_append] at hle
          obtain ⟨v2, b1, b2⟩ := ih (off + l1.length) l2 hl2 (fun g hg => hm g (by simp [hg])) (by omega)
          refine ⟨v1 ++ v2, ?_, a2.append b2⟩
          rw [List.length_append, List.take_add, List.drop_drop]
          exact a1.append b1
      obtain ⟨vs, h1, h2⟩ := key fs.toList 0 ls hls hmem (by omega)
      refine ⟨vs, ?_, h2⟩
      rw [hsz, ← hl] at h1
      simpa using h1
    · cases h
end

/-- An argument, of kinds that may be read: a struct is held together. -/
def argLeaf (P : Program) (t : TypeId) : Option (Bool × List Leaf) :=
  match P.underlying t with
  | some (.struct _) => match leafs P 8 t with
    | some ls => some (true, ls)
    | none => none
  | some (.array _ _) => none
  | _ => match leafs P 8 t with
    | some ls => some (false, ls)
    | none => none

def ArgV : Bool × List Leaf → V → Prop
  | (true, ls), v => ∃ vs, v = .agg vs ∧ LeafsV ls vs
  | (false, ls), v => LeafsV ls [v]

def argLeafs (P : Program) : List TypeId → Option (List (Bool × List Leaf))
  | [] => some []
  | t :: ts => match argLeaf P t, argLeafs P ts with
    | some l, some ls => some (l :: ls)
    | _, _ => none

def ArgsV : List (Bool × List Leaf) → List V → Prop
  | [], vs => vs = []
  | l :: ls, vs => ∃ u us, vs = u :: us ∧ ArgV l u ∧ ArgsV ls us

def noEnv : Env := ⟨fun _ => none, fun _ _ => none, fun _ => False⟩
def noHeap : Heap := fun _ => none

theorem noEnv_own (b : Nat) : ¬ noEnv.own b := by
  rintro (⟨o, h⟩ | ⟨s, g, h⟩ | h)
  · cases h
  · cases h
  · exact h

theorem noEnv_inv (w : World) : Inv noEnv w noEnv w where
  size := Nat.le_refl _
  obm := fun _ _ h => h
  obn := fun _ _ h _ => h
  bxn := fun _ _ _ h => by cases h
  ex := rfl
  exlt := fun _ h => h.elim
  keep := fun _ _ _ => rfl
  os := rfl
  tape := rfl
  output := rfl
  oblt := fun _ _ h => by cases h
  bxlt := fun _ _ _ h => by cases h
  obinj := fun _ _ _ h _ => by cases h
  bxinj := fun _ _ _ _ _ h _ => by cases h
  obbx := fun _ _ _ _ h => by cases h
  fin := ⟨0, fun _ _ => rfl⟩

theorem Inv.below {w w' : World} {E' : Env} (h : Inv noEnv w E' w') : Below w.heap.size w w' where
  os := h.os
  tape := h.tape
  output := h.output
  size := h.size
  block := fun b hb => h.keep b hb (fun o e => by cases e)

theorem arg_read {H : Type} {enc : TypeId × Value → H} {P : Program} {W : World} {t : TypeId} {v : Value} {d : DataW H} {ps : List MemPlace} {l : Bool × List Leaf} (hl : argLeaf P t = some l)
    (hok : Value.okWide P W .any 0 t v) (h : DataW.Trod enc P W 0 (fun _ => true) true t v d ps) : ∃ u, R noEnv W u v ∧ ArgV l u := by
  obtain ⟨fuel, hf⟩ := h
  have hread : ∀ ls, leafs P 8 t = some ls → ∃ vs, RL noEnv W vs v.cells.toList ∧ LeafsV ls vs := fun ls h => trod_read noEnv_own 8 t ls h fuel _ _ hf
  unfold argLeaf at hl
  unfold Value.okWide at hok
  split at hl
  · rename_i fs hu
    rw [hu] at hok
    obtain ⟨cs, rfl, _⟩ := hok
    split at hl <;> try (cases hl; done)
    rename_i ls hls
    cases hl
    obtain ⟨vs, h1, h2⟩ := hread ls hls
    refine ⟨.agg vs, ?_, vs, rfl, h2⟩
    simp only [R]
    exact ⟨cs, rfl, by simpa [Value.cells] using h1⟩
  · cases hl
  · rename_i n1 n2
    split at hl <;> try (cases hl; done)
    rename_i ls hls
    cases hl
    obtain ⟨vs, h1, h2⟩ := hread ls hls
    have hone : ls.length = 1 := by
      unfold leafs at hls
      split at hls
      · cases hls; rfl
      · cases hls; rfl
      · cases hls; rfl
      · split at hls <;> try (cases hls; done)
        split at hls <;> try (cases hls; done)
        cases hls; rfl
      · rename_i fs hu; exact absurd hu (n1 fs)
      · cases hls
    have hv : v.cells = #[v] := by
      cases v <;> try rfl
      rename_i cs
      exfalso
      have hc : Value.cells (.agg cs) = cs := rfl
      rw [hc] at hf
      cases hu : P.underlying t with
      | none => unfold leafs at hls; simp [hu] at hls
      | some dsc =>
        rw [hu] at hok n1 n2
        cases dsc <;> first | exact n1 _ rfl | exact n2 _ _ rfl | skip
        all_goals (simp [Cell.okWide, hu, Cell.ok] at hok)
    rw [hv] at h1
    have h3 := h2.length
    rw [hone] at h3
    match vs, h3 with
    | [u], _ =>
      simp only [RL] at h1
      obtain ⟨y, ys, he, hr, _⟩ := h1
      simp at he
      obtain ⟨rfl, _⟩ := he
      exact ⟨u, hr, h2⟩

theorem args_read {H : Type} {enc : TypeId × Value → H} {P : Program} {W : World} : ∀ {ts : List TypeId} {vs : List Value} {ds : List (DataW H)} {ps : List MemPlace} {ls : List (Bool × List Leaf)}, argLeafs P ts = some ls →
    (∀ (j : Nat) t v, ts[j]? = some t → vs[j]? = some v → Value.okWide P W .any 0 t v) → DataW.TrodAll enc P W 0 (fun _ => true) true ts vs ds ps → ∃ us, RL noEnv W us vs ∧ ArgsV ls us ∧ ds.length = ts.length
  | [], [], [], ps, ls, hl, _, _ => by
    simp only [argLeafs, Option.some.injEq] at hl; subst hl
    exact ⟨[], by simp [RL], rfl, rfl⟩
  | t :: ts, v :: vs, d :: ds, ps, ls, hl, hok, h => by
    obtain ⟨p, q, h1, h2, _⟩ := h
    unfold argLeafs at hl
    split at hl <;> try (cases hl; done)
    rename_i l ls' hl1 hl2
    cases hl
    obtain ⟨u, a1, a2⟩ := arg_read hl1 (hok 0 t v rfl rfl) h1
    obtain ⟨us, b1, b2, b3⟩ := args_read hl2 (fun j t v ht hv => hok (j + 1) t v (by simpa using ht) (by simpa using hv)) h2
    refine ⟨u :: us, ?_, ?_, by simp [b3]⟩
    · simp only [RL]; exact ⟨v, vs, rfl, a1, b1⟩
    · simp only [ArgsV]; exact ⟨u, us, rfl, a2, b2⟩
  | [], _ :: _, _, _, _, _, _, h => h.elim
  | [], [], _ :: _, _, _, _, _, h => h.elim
  | _ :: _, [], _, _, _, _, _, h => h.elim
  | _ :: _, _ :: _, [], _, _, _, _, h => h.elim

theorem below_trodAll {H : Type} {enc : TypeId × Value → H} {P : Program} (hl : laidOutB P = true) {W W' : World} (hb : Below W.heap.size W W') : ∀ {ts : List TypeId} {vs : List Value} {ds : List (DataW H)} {ps : List MemPlace}, (∀ t ∈ ts, P.readableRec t = true ∧ t < P.types.size) →
    DataW.TrodAll enc P W 0 (fun _ => true) true ts vs ds ps → (∀ x ∈ ps, x.block < W.heap.size) → DataW.TrodAll enc P W' 0 (fun b => decide (b < W.heap.size)) true ts vs ds ps
  | [], [], [], ps, _, h, _ => h
  | t :: ts, v :: vs, d :: ds, ps, ht, h, hlt => by
    obtain ⟨p, q, h1, h2, rfl⟩ := h
    refine ⟨p, q, Below.trod hl (ht t (by simp)).1 (ht t (by simp)).2 h1 hb (fun x hx => hlt x (by simp [hx])), below_trodAll hl hb (fun t' h' => ht t' (by simp [h'])) h2 (fun x hx => hlt x (by simp [hx])), rfl⟩
  | [], _ :: _, _, _, _, h, _ => h.elim
  | [], [], _ :: _, _, _, h, _ => h.elim
  | _ :: _, [], _, _, _, h, _ => h.elim
  | _ :: _, _ :: _, [], _, _, h, _ => h.elim

/-- A LAW, LIFTED: whatever arguments that may be read, the call returns true: so says the row. -/
theorem law_lifted {H : Type} {enc : TypeId × Value → H} {a : Assume} {C : Checked} {os : Os} {f : FuncId} {fn : Func} {s : ChangeSpec} {conds : List PathCond}
    {ls : List (Bool × List Leaf)} {tb : TypeId}
    (own : ownKnob C.prog.godebug = none) (started : os.Started) (noInit : C.prog.inits.idxOf? f = none) (hfn : C.prog.funcs[f]? = some fn)
    (witness : ∃ (w : World) (tape : Tape) (i : Input), w.os = os ∧ (w.forCall tape i).Shaped C.prog ∧ i.vars = [] ∧ Input.okWide C.prog (w.forCall tape i) .any w.heap.size f i ∧
      s.pre6 enc C.prog fn conds false (w.forCall tape i).memory i.args ∧ a.holds C.prog (lone (Frame.enter C.prog f i.args .normal) [] (w.forCall tape i)))
    (hlaid : laidOutB C.prog = true) (hts : ∀ t ∈ fn.params.toList, C.prog.readableRec t = true ∧ t < C.prog.types.size)
    (hvars : s.vars = []) (hleaf : argLeafs C.prog fn.params.toList = some ls) (hres : fn.resultTypes = #[tb]) (hbool : C.prog.underlying tb = some .bool)
    (hspec : ∀ ds : List (DataW H), ds.length = fn.params.size → (s.fn H (ds ++ [])).results = [.lit (.bool true)] ∧ (s.fn H (ds ++ [])).args = ds ∧ (s.fn H (ds ++ [])).vars = [])
    (law : ∀ vs, ArgsV ls vs → Spec C.prog f vs noHeap fun r _ => r = .bool true) :
    ReturnsInHanded a C os f .any (s.pre6 enc C.prog fn conds false) (s.post enc C.prog fn false true false false) := by
  refine returnsInHanded_of_change_sized own started noInit hfn witness ?_
  intro W base args ds gs before hval hW _ _ _
  have hW' := hW
  obtain ⟨p, q, hA, hV, rfl, hfz, hnd⟩ := hW
  rw [hvars] at hV
  have hq : gs = [] ∧ q = [] := by
    cases gs with
    | nil => exact ⟨rfl, hV⟩
    | cons _ _ => exact hV.elim
  obtain ⟨rfl, rfl⟩ := hq
  have hok : ∀ (j : Nat) t v, fn.params.toList[j]? = some t → args.toList[j]? = some v → Value.okWide C.prog W .any 0 t v := fun j t v ht hv => by
    have := hval j t v (by simpa using ht) (by simpa using hv)
    exact Value.okWide_any_base this
  obtain ⟨us, h1, h2, h3⟩ := args_read hleaf hok hA
  refine ((law us h2).2 noEnv W args (fun _ _ => rfl) (noEnv_inv W) h1 (fun _ _ e => by cases e) (fun _ _ => rfl)).mono ?_
  rintro e w' ⟨x, r, M', E', rfl, rfl, hr, _, hinv, _⟩
  simp only [R] at hr
  subst hr
  have hb := hinv.below
  obtain ⟨e1, e2, e3⟩ := hspec ds (by simpa using h3)
  refine ⟨_, rfl, ds, [], _, [], p, [], hW', ?_, ?_, ?_, hb.frame _, fun h => by cases h⟩
  · rw [e1, hres]
    exact trodAll_mk1 (shut_bool hbool true)
  · rw [e2]
    exact below_trodAll hlaid hb hts hA (fun x hx => hW'.lt x (by simp [hx]))
  · rw [e3, hvars]; rfl
end Go.Eng
