/- The engine, part 8: one operation of any kind, as a transformer of predicates on abstract states; that the model goes the same way. -/
import Derived.Test.YtndjoblgphalhaaE7
namespace Go.Eng
set_option linter.unusedSimpArgs false
set_option linter.unusedVariables false

/-- WHAT A CALL OF A FUNCTION DOES: for whatever stands for these arguments and this heap it returns, with a result and a heap of which 'Post' holds. -/
def Spec (P : Program) (f : FuncId) (args : List V) (M : Heap) (Post : V → Heap → Prop) : Prop :=
  (∃ fn, P.funcs[f]? = some fn ∧ (fn.name == "runtime.NumGoroutine") = false ∧ fn.body.isNone = false) ∧
  ∀ (E : Env) (w : World) (xs : Array Value), (∀ s g, E.bx s g = none) → Inv E w E w → RL E w args xs.toList → RH E w M →
    Calls P f xs w fun e w' => ∃ x r M' E', e = .returned x ∧ Post r M' ∧ R E' w' r x ∧ RH E' w' M' ∧ Inv E w E' w'

theorem Spec.mono {P : Program} {f : FuncId} {args : List V} {M : Heap} {Post Post' : V → Heap → Prop} (h : Spec P f args M Post) (hp : ∀ r M', Post r M' → Post' r M') : Spec P f args M Post' :=
  ⟨h.1, fun E w xs h1 h2 h3 h4 => (h.2 E w xs h1 h2 h3 h4).mono fun e w' ⟨x, r, M', E', k1, k2, k3⟩ => ⟨x, r, M', E', k1, hp _ _ k2, k3⟩⟩

/-- A call that leaves the heap alone, and its one result. -/
def Pure (P : Program) (f : FuncId) (args : List V) (M : Heap) (r : V) : Prop := Spec P f args M fun r' M' => r' = r ∧ M' = M

def callV (fr : Nat → V) (c : Call) : Option (Prop × FuncId × List V) :=
  match c.callee with
  | .value f =>
    match opv fr f, opvs fr c.args.toList with
    | some (g, .fn (.func id) first cap), some (g', vs) => some (g ∧ g', id, first ++ vs ++ cap)
    | _, _ => none
  | _ => none

def splice (cs : List V) (off : Nat) (vs : List V) : List V := cs.take off ++ vs ++ cs.drop (off + vs.length)

def storeTo (st : St) (vs : List V) : V → Option (Prop × St)
  | .lref s g off =>
    match st.fr s with
    | .box g' cs => some (g = g' ∧ off + vs.length ≤ cs.length, { st with fr := upd st.fr s (.box g' (splice cs off vs)) })
    | _ => none
  | .ptr o off =>
    match st.M o with
    | some (.cells cs) => some (off + vs.length ≤ cs.length, { st with M := updH st.M o (.cells (splice cs off vs)) })
    | _ => none
  | _ => none

/-- A map with an entry more, or another one. -/
def setKV (key v : V) : List (V × V) → Option (List (V × V))
  | [] => some [(key, v)]
  | (k, u) :: kvs =>
    match keyEq key k with
    | some true => some ((key, v) :: kvs)
    | some false => match setKV key v kvs with
      | some r => some ((k, u) :: r)
      | none => none
    | none => none

def setD (st : St) (dst : Option Nat) (v : V) : St :=
  match dst with
  | some d => { st with fr := upd st.fr d v }
  | none => st

/-- A new variable: in the slot, or (where its address goes further) on the heap. -/
def newVarW (esc : Nat → Bool) (st : St) (dst : Option Nat) (cs : List V) (K : St → Prop) : Prop :=
  match dst with
  | none => False
  | some d =>
    if esc d then ∀ o, st.M o = none → K { st with fr := upd st.fr d (.ptr o 0), M := updH st.M o (.cells cs) }
    else K { st with fr := upd st.fr d (.box (st.gen d) cs), gen := bump st.gen d }

/-- One operation, whatever its guard. -/
def opw (P : Program) (esc : Nat → Bool) (o : Oper) (K : St → Prop) (st : St) : Prop :=
  match o.op with
  | .box _ x =>
    match opv st.fr x with
    | some (g, v) => g ∧ v.tag < 20 ∧ newVarW esc st o.dst v.cells K
    | none => False
  | .alloc t =>
    match zeroV P t with
    | some z => newVarW esc st o.dst z.cells K
    | none => False
  | .store t a x =>
    match ti P t, opv st.fr a, opv st.fr x with
    | some T, some (g, av), some (g', v) =>
      match storeTo st v.cells av with
      | some (g'', st') => g ∧ g' ∧ g'' ∧ v.cells.length = T.size ∧ v.tag < 20 ∧ (∀ c ∈ v.cells, cellOk c = true) ∧ K (setD st' o.dst (.tup []))
      | none => False
    | _, _, _ => False
  | .mapUpdate t m k x =>
    match P.underlying t, opv st.fr m, opv st.fr k, opv st.fr x with
    | some (.map kt _), some (g, .map ob), some (g', kv), some (g'', v) =>
      match P.underlying kt, st.M ob with
      | some d, some (.map kvs) =>
        match setKV kv v kvs with
        | some r => g ∧ g' ∧ g'' ∧ keyKind d kv = true ∧ v.tag < 20 ∧ K (setD { st with M := updH st.M ob (.map r) } o.dst (.tup []))
        | none => False
      | _, _ => False
    | _, _, _, _ => False
  | .makeMap _ none =>
    match o.dst with
    | some d => ∀ ob, st.M ob = none → K { st with fr := upd st.fr d (.map ob), M := updH st.M ob (.map []) }
    | none => False
  | .range t x =>
    match P.underlying t, opv st.fr x, o.dst with
    | some .string, some (g, .str s), some d => g ∧ K { st with fr := upd st.fr d (.itr (st.gen d) s 0), gen := bump st.gen d }
    | _, _, _ => False
  | .next (.tmp t) true =>
    match st.fr t with
    | .itr g s pos =>
      (pos < s.length → K (setD { st with fr := upd st.fr t (.itr g s (pos + (Utf8.decode ⟨⟨s⟩⟩ pos).2)) } o.dst (.tup [.bool true, .int .i64 pos, .int .i32 (Utf8.decode ⟨⟨s⟩⟩ pos).1]))) ∧
      (s.length ≤ pos → K (setD st o.dst (.tup [.bool false])))
    | _ => False
  | .call ⟨.value f, args, ts⟩ =>
    match callV st.fr ⟨.value f, args, ts⟩ with
    | some (g, id, vs) => g ∧ ∃ Post, Spec P id vs st.M Post ∧ ∀ r M', Post r M' → K (setD { st with M := M' } o.dst r)
    | none => False
  | op =>
    match evalQ P st.M st.fr op with
    | some (g, v) => g ∧ K (setD st o.dst v)
    | none => False

/-- All that the engine knows of a state of the machine. -/
structure RSt (E0 : Env) (w0 : World) (n : Nat) (E : Env) (w : World) (st : St) (a : Act) : Prop where
  inv : Inv E0 w0 E w
  fr : FR E w st.fr a.tmps
  size : a.tmps.size = n
  heap : RH E w st.M
  defers : a.defers = []
  gens : ∀ s g, st.gen s ≤ g → E.bx s g = none

def Nxt (E0 : Env) (w0 : World) (n : Nat) (K : St → Prop) : Act → World → Prop := fun a w => ∃ E st, RSt E0 w0 n E w st a ∧ K st

section
variable {P : Program} {E0 E : Env} {w0 w : World} {n : Nat} {st : St} {a : Act} {esc : Nat → Bool} {K : St → Prop} {Q : Exit → Act → World → Prop}

theorem RSt.put (h : RSt E0 w0 n E w st a) {dst : Option Nat} (hd : ∀ d, dst = some d → d < n) {v : V} {x : Value} (hv : ∀ t, RS E w t v x) : RSt E0 w0 n E w (setD st dst v) (a.put dst x) := by
  cases dst with
  | none => exact h
  | some d =>
    refine ⟨h.inv, ?_, by simp [Act.put, h.size], by simpa [setD] using h.heap, by simpa [Act.put] using h.defers, by simpa [setD] using h.gens⟩
    simp only [setD, Act.put]
    exact h.fr.put (by rw [h.size]; exact hd d rfl) (hv d)

theorem mem_setKV {E : Env} {w : World} {d : TypeDesc} {key v : V} {x y : Value} (hk : keyKind d key = true) (hr : R E w key x) (hv : R E w v y) : ∀ (kvs r : List (V × V)) (es : List MapEntry) (i : Nat), setKV key v kvs = some r → RKV E w kvs es →
    (Instr.findNow d x es i = some none ∧ ∀ born, RKV E w r (es ++ [{ key := x, val := y, born }])) ∨
    (∃ j z, Instr.findNow d x es i = some (some (i + j, z)) ∧ j < es.length ∧ Instr.sameBits 10000 ((es[j]?.map (·.key)).getD x) x = true ∧ RKV E w r (es.modify j fun e => { e with key := x, val := y }))
  | [], r, es, i, h, hkv => by
    simp [setKV] at h; subst h
    simp [RKV] at hkv; subst hkv
    left
    exact ⟨by simp [Instr.findNow], fun born => by simp only [RKV, List.nil_append]; exact ⟨_, [], rfl, hr, hv, rfl⟩⟩
  | (k, u) :: kvs, r, es, i, h, hkv => by
    simp only [RKV] at hkv
    obtain ⟨e, rest, rfl, h1, h2, h3⟩ := hkv
    have hsame : ∀ b, keyEq key k = some b → Instr.sameNow d x e.key = some b ∧ (b = true → Instr.sameBits 10000 e.key x = true) := by
      intro b hb
      cases key <;> cases k <;> simp [keyEq] at hb <;> cases d <;> simp [keyKind] at hk
      · simp only [R] at hr h1; subst hr; rw [h1]; subst hb; exact ⟨by simp [Instr.sameNow], fun hh => by simp at hh; subst hh; simp [Instr.sameBits]⟩
      · obtain ⟨rfl, rfl⟩ := hb; simp only [R] at hr h1; subst hr; rw [h1]; exact ⟨by simp [Instr.sameNow], fun hh => by simp at hh; subst hh; simp [Instr.sameBits]⟩
      · simp only [R] at hr h1; obtain ⟨rfl, _⟩ := hr; rw [h1.1]; subst hb; exact ⟨by simp [Instr.sameNow, bytes_beq], fun hh => by simp at hh; subst hh; simp [Instr.sameBits, bytes_beq]⟩
    unfold setKV at h
    cases hq : keyEq key k with
    | none => simp [hq] at h
    | some b =>
      obtain ⟨s1, s2⟩ := hsame b hq
      simp only [hq] at h
      cases b with
      | true =>
        simp at h; subst h
        right
        refine ⟨0, e.val, by simp [Instr.findNow, s1], by simp, by simpa using s2 rfl, ?_⟩
        simp only [List.modify_zero_cons, RKV]
        exact ⟨_, rest, rfl, hr, hv, h3⟩
      | false =>
        simp only at h
        split at h <;> simp at h
        rename_i r' hr'
        subst h
        rcases mem_setKV hk hr hv kvs r' rest (i + 1) hr' h3 with ⟨g1, g2⟩ | ⟨j, z, g1, g2, g3, g4⟩
        · left
          refine ⟨by simpa [Instr.findNow, s1] using g1, fun born => ?_⟩
          simp only [List.cons_append, RKV]
          exact ⟨e, _, rfl, h1, h2, g2 born⟩
        · right
          refine ⟨j + 1, z, by rw [show i + (j + 1) = i + 1 + j by omega]; simpa [Instr.findNow, s1] using g1, by simpa using g2, by simpa using g3, ?_⟩
          simp only [List.modify_succ_cons, RKV]
          exact ⟨e, _, rfl, h1, h2, g4⟩

theorem RS_tupnil {E : Env} {w : World} (t : Nat) : RS E w t (.tup []) undef := by
  simp only [RS, R]
  exact ⟨#[], rfl, by simp [RL]⟩

theorem upd_dst (h : RSt E0 w0 n E w st a) {d : Nat} (hd : d < n) {E' : Env} {w' : World} (hg : Grow E w E' w') (hi : Inv E0 w0 E' w') {v : V} {x : Value} (hv : RS E' w' d v x) {M' : Heap} (hm : RH E' w' M') {gen : Nat → Nat} (hgen : ∀ s g, gen s ≤ g → E'.bx s g = none) :
    RSt E0 w0 n E' w' { fr := upd st.fr d v, M := M', gen := gen } (a.put (some d) x) :=
  ⟨hi, (h.fr.grow hg).put (by rw [h.size]; exact hd) hv, by simp [Act.put, h.size], hm, by simpa [Act.put] using h.defers, hgen⟩

theorem gens_box (h : RSt E0 w0 n E w st a) (d : Nat) : ∀ s g, bump st.gen d s ≤ g → (newBox E d (st.gen d) w.heap.size).bx s g = none := fun s g hg => by
  simp only [bump] at hg
  simp only [newBox]
  split at hg
  · subst_vars; rw [if_neg (by omega)]; exact h.gens _ _ (by omega)
  · rename_i hs; rw [if_neg (fun e => hs e.1)]; exact h.gens _ _ hg

/-- A new variable. -/
theorem newVar_sound {o : Oper} (h : RSt E0 w0 n E w st a) (hd : ∀ d, o.dst = some d → d < n) {cs : List V} {arr : Array Value} {ty : TypeId} (hk : newVarW esc st o.dst cs K) (hl : RL E w cs arr.toList) :
    Nxt E0 w0 n K (a.put o.dst (.pointer (some ⟨w.heap.size, 0, none⟩))) (w.alloc (.cells arr ty)) := by
  unfold newVarW at hk
  cases hdst : o.dst with
  | none => simp [hdst] at hk
  | some d =>
    simp only [hdst] at hk
    have hdn := hd d hdst
    split at hk
    · obtain ⟨N, hN⟩ := h.inv.fin
      have hnone := hN N (Nat.le_refl _)
      have hM : st.M N = none := by
        cases hM : st.M N with
        | none => rfl
        | some ho => obtain ⟨b, hb, _⟩ := h.heap N ho hM; rw [hnone] at hb; cases hb
      have hg := grow_ob h.inv hnone (.cells arr ty)
      refine ⟨newOb E N w.heap.size, _, upd_dst h hdn hg (inv_ob h.inv hnone _) (v := .ptr N 0) ?_ (M' := updH st.M N (.cells cs)) ?_ h.gens, hk N hM⟩
      · simp only [RS, R]; exact ⟨w.heap.size, by simp [newOb], rfl⟩
      · intro o' ho hM'
        simp only [updH] at hM'
        split at hM'
        · cases hM'; subst_vars
          exact ⟨w.heap.size, by simp [newOb], arr, ty, heap_new _, RL.later hg.later _ _ hl⟩
        · obtain ⟨b, hb, hr⟩ := (h.heap.grow hg) o' ho hM'
          exact ⟨b, hb, hr⟩
    · have hnone := h.gens d (st.gen d) (Nat.le_refl _)
      have hg := grow_box h.inv hnone (.cells arr ty)
      refine ⟨newBox E d (st.gen d) w.heap.size, _, upd_dst h hdn hg (inv_box h.inv hnone _) (v := .box (st.gen d) cs) ?_ (M' := st.M) (h.heap.grow hg) (gens_box h d), hk⟩
      simp only [RS]
      exact ⟨w.heap.size, arr, ty, by simp [newBox], rfl, heap_new _, RL.later hg.later _ _ hl⟩

/-- A store. -/
theorem storeTo_sound {o : Oper} (h : RSt E0 w0 n E w st a) {vs : List V} {av : V} {x : Value} {xs : List Value} {c : Prop} {st' : St} (hs : storeTo st vs av = some (c, st')) (hc : c) (ha : RO E w av x) (hl : RL E w vs xs) (ho : ∀ c ∈ vs, cellOk c = true) :
    ∃ b off w', x = .pointer (some ⟨b, off, none⟩) ∧ (storeCells ⟨b, off, none⟩ xs).run P w = .ok () w' ∧ RSt E0 w0 n E w' st' a := by
  have hone := RL.one ho hl
  have hlen := hl.length
  unfold storeTo at hs
  split at hs
  · rename_i s g off
    split at hs <;> simp at hs
    rename_i g' cs hfr
    obtain ⟨e, rfl⟩ := hs
    obtain ⟨rfl, hfit⟩ := e.2 hc
    simp only [RO] at ha
    obtain ⟨b, hb, rfl⟩ := ha
    have hsl := h.fr s
    rw [hfr] at hsl
    simp only [RS] at hsl
    obtain ⟨b', arr, ty, hb', hx', hh, hcs⟩ := hsl
    rw [hb] at hb'; cases hb'
    have hclen := hcs.length
    simp at hclen
    obtain ⟨w', arr', h1, h2, h3, h4⟩ := storeCells_ok (P := P) (b := b) (off := off) (ty := ty) xs 0 w arr hh (by omega) hone
    have hown : E.own b := .inr (.inl ⟨s, g, hb⟩)
    have hbn := h.inv.bxn s g b hb
    have hlat := h4.later hown
    refine ⟨b, off, w', rfl, h1, h4.inv h.inv (.inl hbn), ?_, h.size, ?_, h.defers, h.gens⟩
    · intro t
      simp only [upd]
      by_cases ht : t = s
      · subst ht
        simp only [if_true, RS]
        refine ⟨b, arr', ty, hb, hx', h2, ?_⟩
        rw [h3]
        simp only [Nat.add_zero, splice]
        rw [hlen]
        exact ((RL.later hlat _ _ (hcs.take off)).append (RL.later hlat _ _ hl)).append (RL.later hlat _ _ (hcs.drop _))
      · rw [if_neg ht]
        exact RS.wr h4 hown (fun g2 e => ht (h.inv.bxinj _ _ _ _ _ e hb).1) (h.fr t)
    · intro o' ho' hM'
      obtain ⟨b', hb', hr⟩ := h.heap o' ho' hM'
      exact ⟨b', hb', hr.later hlat (h4.other b' (fun e => h.inv.obbx _ _ _ _ hb' (e ▸ hb)))⟩
  · rename_i ob off
    split at hs <;> simp at hs
    rename_i cs hM
    obtain ⟨e, rfl⟩ := hs
    have hfit := e.2 hc
    simp only [RO, R] at ha
    obtain ⟨b, hb, rfl⟩ := ha
    obtain ⟨b', hb', arr, ty, hh, hcs⟩ := h.heap ob _ hM
    rw [hb] at hb'; cases hb'
    have hclen := hcs.length
    simp at hclen
    obtain ⟨w', arr', h1, h2, h3, h4⟩ := storeCells_ok (P := P) (b := b) (off := off) (ty := ty) xs 0 w arr hh (by omega) hone
    have hown : E.own b := .inl ⟨ob, hb⟩
    have hlat := h4.later hown
    have hinv : Inv E0 w0 E w' := h4.inv h.inv (by
      rcases Nat.lt_or_ge b w0.heap.size with hlt | hge
      · exact .inr ⟨ob, h.inv.obn ob b hb hlt⟩
      · exact .inl hge)
    refine ⟨b, off, w', rfl, h1, hinv, ?_, h.size, ?_, h.defers, h.gens⟩
    · intro t
      exact RS.wr h4 hown (fun g2 e => h.inv.obbx _ _ _ _ hb e) (h.fr t)
    · intro o' ho' hM'
      simp only [updH] at hM'
      split at hM'
      · cases hM'; subst_vars
        refine ⟨b, hb, arr', ty, h2, ?_⟩
        rw [h3]
        simp only [Nat.add_zero, splice]
        rw [hlen]
        exact ((RL.later hlat _ _ (hcs.take off)).append (RL.later hlat _ _ hl)).append (RL.later hlat _ _ (hcs.drop _))
      · rename_i hne
        obtain ⟨b', hb', hr⟩ := h.heap o' ho' hM'
        exact ⟨b', hb', hr.later hlat (h4.other b' (fun e => hne (h.inv.obinj _ _ _ hb' (e ▸ hb))))⟩
  · simp at hs
end
end Go.Eng
