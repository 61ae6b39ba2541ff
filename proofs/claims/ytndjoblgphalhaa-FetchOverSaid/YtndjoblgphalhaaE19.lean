/- The engine, part 19: calls that write the heap, by a table; regions that draw their order and write the heap. -/
import Derived.Test.YtndjoblgphalhaaE18
namespace Go.Eng
set_option linter.unusedSimpArgs false
set_option linter.unusedVariables false

/-- What calls come to that write the heap, in one way only. -/
abbrev WTab := Heap → FuncId → List V → Option (Prop × V × Heap)
def WTabOk (P : Program) (W : WTab) : Prop := ∀ M id vs g r M', W M id vs = some (g, r, M') → g → Spec P id vs M fun r' M'' => r' = r ∧ M'' = M'

/-- A call, by either table. -/
def stepCW (T : Tab) (W : WTab) (n : Nat) (o : SO) (st : St) : Option (Prop × St) :=
  match dstLt n o.d with
  | false => none
  | true =>
    match callV st.fr (callOf o.op) with
    | none => none
    | some (g, id, vs) =>
      match T st.M id vs with
      | some (g', r) =>
        match o.g with
        | none => some (g ∧ g', setD st o.d r)
        | some (s, want) =>
          match guardB want (st.fr s) with
          | some c => some (c = true → g ∧ g', setD st o.d (.when c r))
          | none => none
      | none =>
        match W st.M id vs with
        | some (g', r, M') =>
          match o.g with
          | none => some (g ∧ g', setD { st with M := M' } o.d r)
          | some (s, want) =>
            match guardB want (st.fr s) with
            | some true => some (g ∧ g', setD { st with M := M' } o.d r)
            | some false => some (True, setD st o.d (.tup []))
            | none => none
        | none => none

def stepW (T : Tab) (W : WTab) (P : Program) (n : Nat) (esc : Nat → Bool) (o : SO) (st : St) : Option (Prop × St) :=
  match isCallV o.op with
  | true => stepCW T W n o st
  | false => step P n esc o st

def runW (T : Tab) (W : WTab) (P : Program) (n : Nat) (esc : Nat → Bool) : List SO → St → Prop × St × List SO
  | [], st => (True, st, [])
  | o :: l, st =>
    match stepW T W P n esc o st with
    | some (g, st') => (g ∧ (runW T W P n esc l st').1, (runW T W P n esc l st').2)
    | none => (True, st, o :: l)

section
variable {P : Program} {T : Tab} {W : WTab} {n : Nat} {esc : Nat → Bool} {Q : Ex → St → Prop} {st st' : St} {l : List SO} {K K' : St → Prop} {o : SO}

theorem stepCW_sound (hT : TabOk P T) (hW : WTabOk P W) {g : Prop} (hop : isCallV o.op = true) (h : stepCW T W n o st = some (g, st')) (hg : g) (hk : K st') : opO P n esc o K st := by
  unfold stepCW at h
  obtain ⟨d, gd, op⟩ := o
  simp only at h hop
  cases hd : dstLt n d with
  | false => rw [hd] at h; cases h
  | true =>
    rw [hd] at h
    simp only at h
    have hcall : ∃ f args ts, op = .call ⟨.value f, args, ts⟩ := by
      unfold isCallV at hop
      split at hop
      · exact ⟨_, _, _, rfl⟩
      · cases hop
    obtain ⟨f, args, ts, rfl⟩ := hcall
    simp only [callOf] at h
    split at h
    · cases h
    · rename_i g1 id vs hc
      split at h
      · rename_i g2 r hr
        refine stepC_sound hT (st' := st') (g := g) hop ?_ hg hk
        unfold stepC
        simp only [hd, callOf, hc, hr]
        exact h
      · split at h <;> try (cases h; done)
        rename_i g2 r M1 hw
        split at h
        · simp only [Option.some.injEq, Prod.mk.injEq] at h
          obtain ⟨rfl, rfl⟩ := h
          refine ⟨hd, ?_⟩
          show opw P esc _ K st
          unfold opw
          simp only [SO.oper, hc]
          refine ⟨hg.1, _, hW _ _ _ _ _ _ hw hg.2, ?_⟩
          rintro r' M' ⟨rfl, rfl⟩
          exact hk
        · rename_i s want
          split at h
          · rename_i hgc
            simp only [Option.some.injEq, Prod.mk.injEq] at h
            obtain ⟨rfl, rfl⟩ := h
            refine ⟨hd, ?_⟩
            simp only [hgc]
            refine .inl ⟨fun _ => ?_, fun e => by cases e⟩
            unfold opw
            simp only [SO.oper, hc]
            refine ⟨hg.1, _, hW _ _ _ _ _ _ hw hg.2, ?_⟩
            rintro r' M' ⟨rfl, rfl⟩
            exact hk
          · rename_i hgc
            simp only [Option.some.injEq, Prod.mk.injEq] at h
            obtain ⟨rfl, rfl⟩ := h
            refine ⟨hd, ?_⟩
            simp only [hgc]
            exact .inl ⟨fun e => (by cases e), fun _ => hk⟩
          · cases h

theorem stepW_sound (hT : TabOk P T) (hW : WTabOk P W) {g : Prop} (h : stepW T W P n esc o st = some (g, st')) (hg : g) (hk : K st') : opO P n esc o K st := by
  unfold stepW at h
  split at h
  · rename_i hc; exact stepCW_sound hT hW hc h hg hk
  · exact step_sound h hg hk

theorem runW_sound (hT : TabOk P T) (hW : WTabOk P W) : ∀ (l : List SO) (st : St), (runW T W P n esc l st).1 → oss P n esc (runW T W P n esc l st).2.2 K (runW T W P n esc l st).2.1 → oss P n esc l K st
  | [], st, _, h => h
  | o :: l, st, hg, h => by
    unfold runW at hg h
    cases hs : stepW T W P n esc o st with
    | none => simp only [hs] at h; exact h
    | some gs =>
      obtain ⟨g, st'⟩ := gs
      simp only [hs] at hg h
      exact stepW_sound hT hW hs hg.1 (runW_sound hT hW l st' hg.2 h)

theorem wps_regW (T : Tab) (W : WTab) (hT : TabOk P T) (hW : WTabOk P W) (h : (runW T W P n esc l st).1 ∧ oss P n esc (runW T W P n esc l st).2.2 (Q .normal) (runW T W P n esc l st).2.1) : wps P n esc (.reg l) Q st := runW_sound hT hW l st h.1 h.2
theorem oss_runW (T : Tab) (W : WTab) (hT : TabOk P T) (hW : WTabOk P W) (h : (runW T W P n esc l st).1 ∧ oss P n esc (runW T W P n esc l st).2.2 K (runW T W P n esc l st).2.1) : oss P n esc l K st := runW_sound hT hW l st h.1 h.2
end

/-! ### Regions that draw their order, and write the heap -/
def isPtr : V → Bool
  | .ptr _ _ => true
  | _ => false

def stepM (T : Tab) (W : WTab) (P : Program) (n : Nat) (esc : Nat → Bool) (bad : List Nat) (H : Heap) (o : SO) (st : St) : Option (Prop × St) :=
  match dstLt n o.d with
  | false => none
  | true =>
    match isCallV o.op with
    | true =>
      match o.g with
      | none => stepCW T W n o st
      | some _ => none
    | false =>
      match o.op with
      | .box _ x =>
        match o.g, o.d, opv st.fr x with
        | none, some d, some (g, v) => if esc d then none else some (g ∧ v.tag < 20, ⟨upd st.fr d (.box (st.gen d) v.cells), st.M, bump st.gen d⟩)
        | _, _, _ => none
      | .alloc t =>
        match o.g, o.d, zeroV P t with
        | none, some d, some z => if esc d then none else some (True, ⟨upd st.fr d (.box (st.gen d) z.cells), st.M, bump st.gen d⟩)
        | _, _, _ => none
      | .store t a x =>
        match ownS esc o with
        | some s => stepOwn P t x s st
        | none =>
        match o.g, ti P t, opv st.fr a, opv st.fr x with
        | none, some T', some (g, .ptr ob off), some (g', v) =>
          match st.M ob with
          | some (.cells cs) => some (g ∧ g' ∧ off + v.cells.length ≤ cs.length ∧ v.cells.length = T'.size ∧ v.tag < 20 ∧ (∀ c ∈ v.cells, cellOk c = true), setD { st with M := updH st.M ob (.cells (splice cs off v.cells)) } o.d (.tup []))
          | _ => none
        | _, _, _, _ => none
      | op =>
        match isA op, safeB st.fr bad op with
        | true, true =>
          match o.g with
          | none => match evalQ P H st.fr op with
            | some (g, v) => some (g, setD st o.d v)
            | none => none
          | some (s, want) =>
            match guardB want (st.fr s) with
            | some c => match evalQ P H st.fr op with
              | some (g, v) => some (c = true → g, setD st o.d (.when c v))
              | none => none
            | none => none
        | _, _ => none

/-- All of it. 'nb': what may read the heap. -/
def runM (T : Tab) (W : WTab) (P : Program) (n : Nat) (esc : Nat → Bool) (bad nb : List Nat) : Nat → List SO → St → Option (Prop × St)
  | _, [], st => some (True, st)
  | i, o :: l, st =>
    match stepM T W P n esc bad (bif memN i nb then st.M else emptyH) o st with
    | some (g, st') => match runM T W P n esc bad nb (i + 1) l st' with
      | some (g', st'') => some (g ∧ g', st'')
      | none => none
    | none => none

section
variable {P : Program} {T : Tab} {W : WTab} {n : Nat} {esc : Nat → Bool} {Q : Ex → St → Prop} {st st' : St} {l : List SO} {K K' : St → Prop} {ops : Array Oper}

theorem stepM_sound (hT : TabOk P T) (hW : WTabOk P W) {i : Nat} {o : Oper} {bad : List Nat} {g : Prop} {H : Heap} (hi : ops[i]? = some o) (hs : ∀ s want, stripG ops o.guard = some (s, want) → s ≠ 1000000) (hbad : badD esc ops i = bad)
    (hH : H = emptyH ∨ (H = st.M ∧ blindB esc true ops i = false))
    (h : stepM T W P n esc bad H (stripO ops o) st = some (g, st')) (hg : g) (hk : K st') : opd P n esc ops true i K st := by
  unfold stepM at h
  cases hd : dstLt n (stripO ops o).d with
  | false => rw [hd] at h; cases h
  | true =>
    rw [hd] at h
    have hd' : dstLt n o.dst = true := hd
    simp only at h
    unfold opd
    simp only [hi]
    have hgn : (stripO ops o).g = none → o.guard = none := by
      intro h1
      cases hgd : o.guard with
      | none => rfl
      | some gd => obtain ⟨sw, hsw⟩ := stripG_some (ops := ops) gd; simp only [stripO, hgd, hsw] at h1; cases h1
    cases hcv : isCallV (stripO ops o).op with
    | true =>
      rw [hcv] at h
      simp only at h
      have hcall : ∃ f args ts, o.op = .call ⟨.value f, args, ts⟩ := by
        unfold isCallV at hcv
        split at hcv
        · rename_i hx; exact ⟨_, _, _, hx⟩
        · cases hcv
      obtain ⟨f, args, ts, hop⟩ := hcall
      have hkind : kindO esc true o = 2 := by simp only [kindO, hop]
      simp only [hkind]
      have hfalse : ((2 : Nat) == 3) = false := rfl
      simp only [hfalse, Bool.false_eq_true, if_false, beq_self_eq_true, Bool.and_self, if_true]
      split at h <;> try (cases h; done)
      rename_i hg0
      have hg1 := hgn hg0
      unfold stepCW at h
      rw [hd] at h
      simp only at h
      have hop' : callOf (stripO ops o).op = ⟨.value f, args, ts⟩ := by simp only [stripO, hop, callOf]
      rw [hop'] at h
      split at h
      · cases h
      · rename_i g1 id vs hc
        have key : ∀ (r : V) (M' : Heap) (g2 : Prop), (g2 → Spec P id vs st.M fun r' M'' => r' = r ∧ M'' = M') → (g1 ∧ g2) → K (setD { st with M := M' } o.dst r) →
            ∃ S, May P n ops o st S ∧ ∀ r M', S r M' → K ((setD st o.dst r).withM M') := by
          intro r M' g2 hsp hgg hkk
          refine ⟨fun r' M'' => r' = r ∧ M'' = M', ⟨hd', ⟨r, M', rfl, rfl⟩, ?_⟩, ?_⟩
          · simp only [hop, guardC, hg1, hc]
            exact ⟨fun _ => ⟨hgg.1, hsp hgg.2⟩, fun e => by cases e⟩
          · rintro r' M'' ⟨rfl, rfl⟩
            rw [withM_setD]; exact hkk
        split at h
        · rename_i g2 r hr
          rw [hg0] at h
          simp only [Option.some.injEq, Prod.mk.injEq] at h
          obtain ⟨rfl, rfl⟩ := h
          exact key r st.M g2 (fun e => hT _ _ _ _ _ hr e) hg hk
        · rw [hg0] at h
          split at h <;> try (cases h; done)
          rename_i g2 r M1 hw
          simp only [Option.some.injEq, Prod.mk.injEq] at h
          obtain ⟨rfl, rfl⟩ := h
          exact key r M1 g2 (fun e => hW _ _ _ _ _ _ hw e) hg hk
    | false =>
      rw [hcv] at h
      simp only at h
      split at h
      · rename_i t x hop
        have hop : o.op = .box t x := hop
        split at h <;> try (cases h; done)
        rename_i d g' v h1 h2 h3
        split at h
        · cases h
        · rename_i he
          simp only [Option.some.injEq, Prod.mk.injEq] at h
          obtain ⟨rfl, rfl⟩ := h
          have h2 : o.dst = some d := h2
          have h1' := hgn h1
          have hkind : kindO esc true o = 1 := by simp only [kindO, hop, h2, h1']; simp [he]
          simp only [hkind]
          refine ⟨.box (st.gen d) v.cells, true, ⟨hd', ?_⟩, ?_⟩
          · simp only [hkind, hop, h2, h3]
            exact ⟨hg.1, hg.2, trivial, trivial⟩
          · rw [dstE_some h2]; simp only [act]; exact hk
      · rename_i t hop
        have hop : o.op = .alloc t := hop
        split at h <;> try (cases h; done)
        rename_i d z h1 h2 h3
        split at h
        · cases h
        · rename_i he
          simp only [Option.some.injEq, Prod.mk.injEq] at h
          obtain ⟨rfl, rfl⟩ := h
          have h2 : o.dst = some d := h2
          have h1' := hgn h1
          have hkind : kindO esc true o = 1 := by simp only [kindO, hop, h2, h1']; simp [he]
          simp only [hkind]
          refine ⟨.box (st.gen d) z.cells, true, ⟨hd', ?_⟩, ?_⟩
          · simp only [hkind, hop, h2, h3]
            exact ⟨trivial, trivial⟩
          · rw [dstE_some h2]; simp only [act]; exact hk
      · rename_i t a x hop
        have hop : o.op = .store t a x := hop
        rw [ownS_strip] at h
        cases ho : ownSt esc o with
        | some s =>
          rw [ho] at h
          obtain ⟨hkind, hdet⟩ := stepOwn_det (P := P) (n := n) (i := i) (m := true) (ops := ops) hop ho h hg hk
          have hfalse : ((1 : Nat) == 3) = false := rfl
          have hfalse2 : ((1 : Nat) == 2) = false := rfl
          simp only [hkind, hfalse, hfalse2, Bool.false_and, Bool.false_eq_true, if_false]
          exact hdet
        | none =>
        rw [ho] at h
        simp only at h
        split at h <;> try (cases h; done)
        rename_i T' g1 ob off g2 v h1 hT' ha hx
        split at h <;> try (cases h; done)
        rename_i cs hm
        simp only [Option.some.injEq, Prod.mk.injEq] at h
        obtain ⟨rfl, rfl⟩ := h
        have h1' := hgn h1
        have hkind : kindO esc true o = 2 := by simp [kindO, hop, ho, h1']
        have hfalse : ((2 : Nat) == 3) = false := rfl
        simp only [hkind, hfalse, Bool.false_eq_true, if_false, beq_self_eq_true, Bool.and_self, if_true]
        refine ⟨fun r' M'' => r' = .tup [] ∧ M'' = updH st.M ob (.cells (splice cs off v.cells)), ⟨hd', ⟨_, _, rfl, rfl⟩, ?_⟩, ?_⟩
        · simp only [hop, h1', hT', ha, hx, hm]
          obtain ⟨k1, k2, k3, k4, k5, k6⟩ := hg
          exact ⟨trivial, k1, k2, k3, k4, k5, k6, by simp⟩
        · rintro r' M'' ⟨rfl, rfl⟩
          rw [withM_setD]; exact hk
      · rename_i op n1 n2 n3
        cases hA : isA (stripO ops o).op with
        | false => rw [hA] at h; cases h
        | true =>
          cases hsf : safeB st.fr bad (stripO ops o).op with
          | false => rw [hA, hsf] at h; cases h
          | true =>
            rw [hA, hsf] at h
            simp only at h
            have hA' : isA o.op = true := hA
            have hkind : kindO esc true o = 0 := by
              have hcv' : isCallV o.op = false := hcv
              unfold kindO
              split
              · rename_i hx; exact absurd hx (n1 _ _)
              · rename_i hx; exact absurd hx (n2 _)
              · rename_i hx; rw [hx] at hcv'; cases hcv'
              · rename_i hx; exact absurd hx (n3 _ _ _)
              · rename_i hx; rw [hx] at hA'; cases hA'
              · simp [hA']
            simp only [hkind]
            have hev : ∀ r, evalQ P H st.fr o.op = some r → evalQ P (if true && blindB esc true ops i then emptyH else st.M) st.fr o.op = some r := by
              intro r hr
              rcases hH with rfl | ⟨rfl, hb⟩
              · split
                · exact hr
                · exact evalQ_blind hr
              · rw [hb]; exact hr
            have key : ∀ c u need, guardS st.fr (stripO ops o).g = some c → evalQ P H st.fr o.op = some (need, u) → (c = true → need) → K (setD st o.dst (wrapS (stripO ops o).g c u)) → ∃ v b, Det P n esc ops true i o st v b ∧ K (act st (dstE esc o) v b) := by
              intro c u need hgc he hn hkk
              refine ⟨wrapS (stripO ops o).g c u, false, ⟨hd', ?_⟩, ?_⟩
              · simp only [hkind, guardC_strip hs hgc, hev _ he]
                exact ⟨hn, by rw [hbad]; exact safe_of hsf, by rw [wrapG_strip (ops := ops)], trivial⟩
              · rw [dstE_of0 hkind]
                cases hdst : o.dst with
                | none => rw [hdst] at hkk; exact hkk
                | some d => rw [hdst] at hkk; exact hkk
            have hfalse : ((0 : Nat) == 3) = false := rfl
            have hfalse2 : ((0 : Nat) == 2) = false := rfl
            simp only [hfalse, hfalse2, Bool.false_and, Bool.false_eq_true, if_false]
            have hop0 : (stripO ops o).op = o.op := rfl
            rw [hop0] at h
            split at h
            · rename_i hgn'
              split at h <;> try (cases h; done)
              rename_i g' v he
              simp only [Option.some.injEq, Prod.mk.injEq] at h
              obtain ⟨rfl, rfl⟩ := h
              exact key true v g' (by rw [hgn']; rfl) he (fun _ => hg) (by rw [hgn']; exact hk)
            · rename_i s want hgn'
              split at h <;> try (cases h; done)
              rename_i c hgc
              split at h <;> try (cases h; done)
              rename_i g' v he
              simp only [Option.some.injEq, Prod.mk.injEq] at h
              obtain ⟨rfl, rfl⟩ := h
              exact key c v g' (by rw [hgn']; exact hgc) he hg (by rw [hgn']; exact hk)

theorem runM_sound (hT : TabOk P T) (hW : WTabOk P W) (hok : guardsOk ops = true) {bad nb : List Nat} (hbad : badD esc ops 0 = bad) (hnb : (nb.all fun i => !blindB esc true ops i) = true) : ∀ (f k : Nat) (st : St) {g : Prop} {st' : St}, k + f = ops.size → runM T W P n esc bad nb k ((ops.toList.drop k).map (stripO ops)) st = some (g, st') → g → K st' →
    seqT (opd P n esc ops true) K f k st
  | 0, k, st, g, st', hk, h, hg, hK => by
    have : ops.toList.drop k = [] := by apply List.drop_eq_nil_of_le; simp; omega
    rw [this] at h
    simp only [List.map_nil, runM, Option.some.injEq, Prod.mk.injEq] at h
    obtain ⟨rfl, rfl⟩ := h
    exact hK
  | f + 1, k, st, g, st', hk, h, hg, hK => by
    have hlt : k < ops.toList.length := by simp; omega
    rw [List.drop_eq_getElem_cons hlt, List.map_cons] at h
    simp only [runM] at h
    split at h <;> try (cases h; done)
    rename_i g1 st1 h1
    split at h <;> try (cases h; done)
    rename_i g2 st2 h2
    simp only [Option.some.injEq, Prod.mk.injEq] at h
    obtain ⟨rfl, rfl⟩ := h
    have ho := List.all_eq_true.1 hok ops.toList[k] (List.getElem_mem hlt)
    simp only [seqT]
    refine stepM_sound hT hW (o := ops.toList[k]) (by simp) (fun s want e => ?_) hbad ?_ h1 hg.1 (runM_sound hT hW hok hbad hnb f (k + 1) st1 (by omega) h2 hg.2 hK)
    · rw [e] at ho
      simpa using ho
    · cases hm : memN k nb with
      | false => left; rfl
      | true =>
        right
        refine ⟨rfl, ?_⟩
        have hin : k ∈ nb := by
          clear h1 h2 hnb
          induction nb with
          | nil => cases hm
          | cons a l ih =>
            unfold memN at hm
            split at hm
            · simp_all
            · exact List.mem_cons_of_mem _ (ih hm)
        have := List.all_eq_true.1 hnb k hin
        simpa using this

theorem wps_drawM (T : Tab) (W : WTab) (nb : List Nat) (hT : TabOk P T) (hW : WTabOk P W) (hok : guardsOk ops = true) (hl : ops.toList.map (stripO ops) = l) (hnb : (nb.all fun i => !blindB esc true ops i) = true)
    (hlex : lexA ops (indB esc ops true) ops.size 0 (Array.replicate ops.size false) = true)
    {g : Prop} (h : runM T W P n esc (slots esc l) nb 0 l st = some (g, st')) (hgk : g ∧ Q .normal st') : wps P n esc (.draw ops l) Q st := by
  subst hl
  exact ⟨true, hlex, runM_sound hT hW hok (slots_bad ops) hnb ops.size 0 st (by simp) h hgk.1 hgk.2⟩
end

/-- Slots that are marked. -/
def escL (l : List Nat) : Nat → Bool := fun d => memN d l

def noW : WTab := fun _ _ _ => none
theorem noW_ok {P : Program} : WTabOk P noW := fun _ _ _ _ _ _ h => by cases h
end Go.Eng
