/- The engine, part 18: calls whose answer a table tells, and regions that draw their order, run. -/
import Derived.Test.YtndjoblgphalhaaE17
namespace Go.Eng
set_option linter.unusedSimpArgs false
set_option linter.unusedVariables false

theorem eqV_tupl (P : Program) (n : Nat) (t : TypeId) (l : List V) (y : V) : eqV P n t (.tup l) y = none := by
  cases n with
  | zero => rfl
  | succ n => unfold eqV; split <;> first | rfl | (rename_i h; cases h; done) | (rename_i h _; cases h; done) | simp_all
theorem eqV_tupr (P : Program) (n : Nat) (t : TypeId) (l : List V) (x : V) : eqV P n t x (.tup l) = none := by
  cases n with
  | zero => rfl
  | succ n => unfold eqV; split <;> first | rfl | simp_all
theorem updH_self (M : Heap) (o : Nat) (h : HObj) : updH M o h o = some h := by simp [updH]
theorem updH_updH (M : Heap) (o : Nat) (h h' : HObj) : updH (updH M o h) o h' = updH M o h' := by funext k; simp only [updH]; split <;> rfl
theorem updH_same {M : Heap} {o : Nat} {h : HObj} (hm : M o = some h) : updH M o h = M := by funext k; simp only [updH]; split <;> simp_all
theorem fbt : (false == true) = false := rfl
theorem tbf : (true == false) = false := rfl

/-- What calls come to that leave the heap alone. -/
abbrev Tab := Heap → FuncId → List V → Option (Prop × V)
def TabOk (P : Program) (T : Tab) : Prop := ∀ M id vs g r, T M id vs = some (g, r) → g → Pure P id vs M r

def isCallV : Op → Bool
  | .call ⟨.value _, _, _⟩ => true
  | _ => false

def callOf : Op → Call
  | .call c => c
  | _ => ⟨.builtin .len, #[], #[]⟩

/-- A call by the table. -/
def stepC (T : Tab) (n : Nat) (o : SO) (st : St) : Option (Prop × St) :=
  match dstLt n o.d with
  | false => none
  | true =>
    match callV st.fr (callOf o.op) with
    | none => none
    | some (g, id, vs) =>
      match T st.M id vs with
      | none => none
      | some (g', r) =>
        match o.g with
        | none => some (g ∧ g', setD st o.d r)
        | some (s, want) =>
          match guardB want (st.fr s) with
          | some c => some (c = true → g ∧ g', setD st o.d (.when c r))
          | none => none

def stepT (T : Tab) (P : Program) (n : Nat) (esc : Nat → Bool) (o : SO) (st : St) : Option (Prop × St) :=
  match isCallV o.op with
  | true => stepC T n o st
  | false => step P n esc o st

def runT (T : Tab) (P : Program) (n : Nat) (esc : Nat → Bool) : List SO → St → Prop × St × List SO
  | [], st => (True, st, [])
  | o :: l, st =>
    match stepT T P n esc o st with
    | some (g, st') => (g ∧ (runT T P n esc l st').1, (runT T P n esc l st').2)
    | none => (True, st, o :: l)

section
variable {P : Program} {T : Tab} {n : Nat} {esc : Nat → Bool} {Q : Ex → St → Prop} {st st' : St} {l : List SO} {K K' : St → Prop} {o : SO}

theorem stepC_sound (hT : TabOk P T) {g : Prop} (hop : isCallV o.op = true) (h : stepC T n o st = some (g, st')) (hg : g) (hk : K st') : opO P n esc o K st := by
  unfold stepC at h
  obtain ⟨d, gd, op⟩ := o
  simp only at h hop
  cases hd : dstLt n d with
  | false => rw [hd] at h; cases h
  | true =>
    rw [hd] at h
    refine ⟨hd, ?_⟩
    simp only at h
    split at h
    · cases h
    · rename_i g1 id vs hc
      split at h
      · cases h
      · rename_i g2 r hr
        have hcall : ∃ f args ts, op = .call ⟨.value f, args, ts⟩ := by
          unfold isCallV at hop
          split at hop
          · exact ⟨_, _, _, rfl⟩
          · cases hop
        obtain ⟨f, args, ts, rfl⟩ := hcall
        simp only [callOf] at hc
        split at h
        · simp only [Option.some.injEq, Prod.mk.injEq] at h
          obtain ⟨rfl, rfl⟩ := h
          show opw P esc _ K st
          unfold opw
          simp only [SO.oper, hc]
          refine ⟨hg.1, _, hT _ _ _ _ _ hr hg.2, ?_⟩
          rintro r' M' ⟨rfl, rfl⟩
          exact hk
        · rename_i s want
          split at h
          · rename_i c hgc
            simp only [Option.some.injEq, Prod.mk.injEq] at h
            obtain ⟨rfl, rfl⟩ := h
            simp only [hgc]
            have hA : isA (.call ⟨.value f, args, ts⟩) = false := rfl
            simp only [hA]
            right
            unfold pcall
            simp only [SO.oper, hc]
            exact ⟨r, fun e => ⟨(hg e).1, hT _ _ _ _ _ hr (hg e).2⟩, hk⟩
          · cases h

theorem stepT_sound (hT : TabOk P T) {g : Prop} (h : stepT T P n esc o st = some (g, st')) (hg : g) (hk : K st') : opO P n esc o K st := by
  unfold stepT at h
  split at h
  · rename_i hc; exact stepC_sound hT hc h hg hk
  · exact step_sound h hg hk

theorem runT_sound (hT : TabOk P T) : ∀ (l : List SO) (st : St), (runT T P n esc l st).1 → oss P n esc (runT T P n esc l st).2.2 K (runT T P n esc l st).2.1 → oss P n esc l K st
  | [], st, _, h => h
  | o :: l, st, hg, h => by
    unfold runT at hg h
    cases hs : stepT T P n esc o st with
    | none => simp only [hs] at h; exact h
    | some gs =>
      obtain ⟨g, st'⟩ := gs
      simp only [hs] at hg h
      exact stepT_sound hT hs hg.1 (runT_sound hT l st' hg.2 h)

theorem wps_regT (T : Tab) (hT : TabOk P T) (h : (runT T P n esc l st).1 ∧ oss P n esc (runT T P n esc l st).2.2 (Q .normal) (runT T P n esc l st).2.1) : wps P n esc (.reg l) Q st := runT_sound hT l st h.1 h.2
theorem oss_runT (T : Tab) (hT : TabOk P T) (h : (runT T P n esc l st).1 ∧ oss P n esc (runT T P n esc l st).2.2 K (runT T P n esc l st).2.1) : oss P n esc l K st := runT_sound hT l st h.1 h.2

theorem oss_obl {g : Prop} (hg : g) (h : oss P n esc l K st) : g ∧ oss P n esc l K st := ⟨hg, h⟩

/-- Any operation, by the transformer. -/
theorem oss_op (hd : dstLt n o.d = true) (hg : o.g = none) (h : opw P esc o.oper (oss P n esc l K) st) : oss P n esc (o :: l) K st := by
  refine ⟨hd, ?_⟩
  rw [hg]
  exact h

/-- A call, by its contract. -/
theorem oss_call {d : Option Nat} {f : Operand} {args : Array Operand} {ts : Array TypeId} {g : Prop} {id : FuncId} {vs : List V} {Post : V → Heap → Prop} (hd : dstLt n d = true)
    (hc : callV st.fr ⟨.value f, args, ts⟩ = some (g, id, vs)) (hg : g) (hs : Spec P id vs st.M Post) (hk : ∀ r M', Post r M' → oss P n esc l K (setD { st with M := M' } d r)) : oss P n esc (⟨d, none, .call ⟨.value f, args, ts⟩⟩ :: l) K st := by
  refine ⟨hd, ?_⟩
  show opw P esc _ _ st
  unfold opw
  simp only [SO.oper, hc]
  exact ⟨hg, Post, hs, hk⟩
end

/-! ### Regions that draw their order -/
def guardS (fr : Nat → V) : Option (Nat × Bool) → Option Bool
  | none => some true
  | some (s, want) => guardB want (fr s)

def wrapS (g : Option (Nat × Bool)) (c : Bool) (v : V) : V :=
  match g with
  | none => v
  | some _ => .when c v

def memN (s : Nat) : List Nat → Bool
  | [] => false
  | d :: l => if s = d then true else memN s l

theorem memN_iff {s : Nat} : ∀ {l : List Nat}, memN s l = false → s ∉ l
  | [], _ => by simp
  | d :: l, h => by
    unfold memN at h
    split at h
    · cases h
    · rename_i hd
      simp [hd, memN_iff h]

/-- A store into a variable of the function's own, marked so: where. -/
def ownS (esc : Nat → Bool) (o : SO) : Option Nat :=
  match o.op with
  | .store _ (.tmp s) _ => match o.d, o.g with
    | none, none => if esc (s + 1000000) then some s else none
    | _, _ => none
  | _ => none

/-- The slots that a region writes. -/
def slots (esc : Nat → Bool) : List SO → List Nat
  | [] => []
  | o :: l => match o.d with
    | some d => d :: slots esc l
    | none => match ownS esc o with
      | some d => d :: slots esc l
      | none => slots esc l

def stepOwn (P : Program) (t : TypeId) (x : Operand) (s : Nat) (st : St) : Option (Prop × St) :=
  match ti P t, opv st.fr x, st.fr s with
  | some T, some (g, u), .box g' cs => some (g ∧ u.cells.length ≤ cs.length ∧ u.cells.length = T.size ∧ u.tag < 20 ∧ (∀ c ∈ u.cells, cellOk c = true), ⟨upd st.fr s (.box g' (splice cs 0 u.cells)), st.M, st.gen⟩)
  | _, _, _ => none

def safeB (fr : Nat → V) (bad : List Nat) (op : Op) : Bool :=
  match reads fr op with
  | some s => !memN s bad
  | none => true

/-- One operation of such a region that leaves memory alone, or makes a variable, or is a call by the table. -/
def stepD (T : Tab) (P : Program) (n : Nat) (esc : Nat → Bool) (bad : List Nat) (H : Heap) (o : SO) (st : St) : Option (Prop × St) :=
  match dstLt n o.d with
  | false => none
  | true =>
    match isCallV o.op with
    | true => stepC T n o st
    | false =>
      match o.op with
      | .box _ x =>
        match o.g, o.d, opv st.fr x with
        | none, some d, some (g, v) => if esc d then none else some (g ∧ v.tag < 20, ⟨upd st.fr d (.box (st.gen d) v.cells), st.M, bump st.gen d⟩)
        | _, _, _ => none
      | .alloc t =>
        match o.g, o.d, zeroV P t with
        | none, some d, some z => if esc d then none else some (True, ⟨upd st.fr d (.box (st.gen d) z.cells), st.M, bump st.gen d⟩)
        | _, _, _ => none
      | .store t _ x => match ownS esc o with
        | some s => stepOwn P t x s st
        | none => step P n esc o st
      | op =>
        match isA op, safeB st.fr bad op with
        | true, true =>
          match o.g with
          | none => match evalQ P H st.fr op with
            | some (g, v) => some (g, setD st o.d v)
            | none => none
          | some (s, want) =>
            match guardB want (st.fr s) with
            | some c => match evalQ P H st.fr op with
              | some (g, v) => some (c = true → g, setD st o.d (.when c v))
              | none => some (c = false, setD st o.d (.tup []))
            | none => none
        | _, _ => none

/-- All of it, where no call writes. -/
def runD (T : Tab) (P : Program) (n : Nat) (esc : Nat → Bool) (bad : List Nat) : List SO → St → Option (Prop × St)
  | [], st => some (True, st)
  | o :: l, st =>
    match stepD T P n esc bad st.M o st with
    | some (g, st') => match runD T P n esc bad l st' with
      | some (g', st'') => some (g ∧ g', st'')
      | none => none
    | none => none

section
variable {P : Program} {T : Tab} {n : Nat} {esc : Nat → Bool} {Q : Ex → St → Prop} {st st' : St} {l : List SO} {K K' : St → Prop} {o : SO} {ops : Array Oper}

theorem guardC_strip {o : Oper} {fr : Nat → V} {c : Bool} (hs : ∀ s want, stripG ops o.guard = some (s, want) → s ≠ 1000000) (h : guardS fr (stripO ops o).g = some c) : guardC ops fr o.guard = some c := by
  cases hg : o.guard with
  | none => simpa [stripO, hg, stripG, guardS, guardC] using h
  | some gd =>
    simp only [guardC]
    rw [hg] at hs
    refine guardOf_strip fr gd c ?_ hs
    have : (stripO ops o).g = stripG ops (some gd) := by rw [← hg]; rfl
    rw [this] at h
    cases hsg : stripG ops (some gd) with
    | none =>
      obtain ⟨j, want⟩ := gd
      simp only [stripG] at hsg
      split at hsg <;> try (cases hsg; done)
      split at hsg <;> cases hsg
    | some sw => rw [hsg] at h; exact h

theorem stripG_some (gd : Nat × Bool) : ∃ sw, stripG ops (some gd) = some sw := by
  obtain ⟨j, want⟩ := gd
  simp only [stripG]
  split
  · split <;> exact ⟨_, rfl⟩
  · exact ⟨_, rfl⟩

theorem wrapG_strip (o : Oper) (c : Bool) (v : V) : wrapG o.guard c v = wrapS (stripO ops o).g c v := by
  cases hg : o.guard with
  | none => simp [stripO, hg, stripG, wrapG, wrapS]
  | some gd =>
    obtain ⟨sw, h⟩ := stripG_some (ops := ops) gd
    simp [stripO, hg, h, wrapG, wrapS]

theorem safe_of {fr : Nat → V} {bad : List Nat} {op : Op} (h : safeB fr bad op = true) : safe fr bad op := by
  intro s hs
  unfold safeB at h
  rw [hs] at h
  exact memN_iff (by simpa using h)

theorem ownS_strip (o : Oper) : ownS esc (stripO ops o) = ownSt esc o := by
  unfold ownS ownSt
  have h1 : (stripO ops o).op = o.op := rfl
  have h2 : (stripO ops o).d = o.dst := rfl
  rw [h1, h2]
  cases o.op <;> try rfl
  rename_i t a x
  cases a <;> try rfl
  rename_i s
  simp only
  cases hd : o.dst with
  | some d => rfl
  | none =>
    cases hg : o.guard with
    | none =>
      have h3 : (stripO ops o).g = none := by simp [stripO, hg, stripG]
      simp only [h3]
    | some gd =>
      obtain ⟨sw, hsw⟩ := stripG_some (ops := ops) gd
      have h3 : (stripO ops o).g = some sw := by simp [stripO, hg, hsw]
      simp only [h3]

theorem stepOwn_det {i : Nat} {o : Oper} {m : Bool} {g : Prop} {t : TypeId} {a x : Operand} {s : Nat} (hop : o.op = .store t a x) (ho : ownSt esc o = some s) (h : stepOwn P t x s st = some (g, st')) (hg : g) (hk : K st') :
    kindO esc m o = 1 ∧ ∃ v b, Det P n esc ops m i o st v b ∧ K (act st (dstE esc o) v b) := by
  have hkind : kindO esc m o = 1 := by simp only [kindO, hop, ho]
  refine ⟨hkind, ?_⟩
  have h0 := ho
  unfold ownSt at h0
  split at h0 <;> try (cases h0; done)
  rename_i t' s' x' h1 h2 h3
  split at h0 <;> try (cases h0; done)
  cases h0
  rw [hop] at h1
  cases h1
  unfold stepOwn at h
  split at h <;> try (cases h; done)
  rename_i T g1 u g' cs k1 k2 k3
  simp only [Option.some.injEq, Prod.mk.injEq] at h
  obtain ⟨rfl, rfl⟩ := h
  refine ⟨.box g' (splice cs 0 u.cells), false, ⟨by rw [h2]; rfl, ?_⟩, ?_⟩
  · simp only [hkind, hop, h2, k1, k2, k3]
    exact ⟨hg.1, hg.2.1, hg.2.2.1, hg.2.2.2.1, hg.2.2.2.2, trivial, trivial⟩
  · have hds : dstE esc o = some s := by unfold dstE; rw [h2]; exact ho
    rw [hds]
    exact hk

theorem stepD_sound (hT : TabOk P T) {i : Nat} {o : Oper} {bad : List Nat} {g : Prop} (hi : ops[i]? = some o) (hs : ∀ s want, stripG ops o.guard = some (s, want) → s ≠ 1000000) (hbad : badD esc ops i = bad)
    (h : stepD T P n esc bad st.M (stripO ops o) st = some (g, st')) (hg : g) (hk : K st') : opd P n esc ops false i K st := by
  unfold stepD at h
  cases hd : dstLt n (stripO ops o).d with
  | false => rw [hd] at h; cases h
  | true =>
    rw [hd] at h
    have hd' : dstLt n o.dst = true := hd
    simp only at h
    unfold opd
    simp only [hi, Bool.and_false, Bool.false_and, Bool.false_eq_true, if_false]
    cases hcv : isCallV (stripO ops o).op with
    | true =>
      rw [hcv] at h
      simp only at h
      have hcall : ∃ f args ts, o.op = .call ⟨.value f, args, ts⟩ := by
        unfold isCallV at hcv
        split at hcv
        · rename_i hx; exact ⟨_, _, _, hx⟩
        · cases hcv
      obtain ⟨f, args, ts, hop⟩ := hcall
      have hkind : kindO esc false o = 2 := by simp only [kindO, hop]
      simp only [hkind]
      unfold stepC at h
      rw [hd] at h
      simp only at h
      have hop' : callOf (stripO ops o).op = ⟨.value f, args, ts⟩ := by simp only [stripO, hop, callOf]
      rw [hop'] at h
      split at h
      · cases h
      · rename_i g1 id vs hc
        split at h
        · cases h
        · rename_i g2 r hr
          have key : ∀ c, guardS st.fr (stripO ops o).g = some c → (c = true → g1 ∧ g2) → K (setD st o.dst (wrapS (stripO ops o).g c r)) → ∃ v b, Det P n esc ops false i o st v b ∧ K (act st (dstE esc o) v b) := by
            intro c hgc hgg hkk
            refine ⟨wrapG o.guard c r, false, ⟨hd', ?_⟩, ?_⟩
            · simp only [hkind, guardC_strip hs hgc, hop, hc]
              exact ⟨r, fun e => ⟨(hgg e).1, hT _ _ _ _ _ hr (hgg e).2⟩, rfl, trivial⟩
            · rw [wrapG_strip (ops := ops), dstE_op (fun t a x e => by rw [hop] at e; cases e)]
              cases hdst : o.dst with
              | none => rw [hdst] at hkk; exact hkk
              | some d => rw [hdst] at hkk; exact hkk
          have hfalse : ((2 : Nat) == 3) = false := rfl
          simp only [hfalse, Bool.false_eq_true, if_false]
          split at h
          · rename_i hgn
            simp only [Option.some.injEq, Prod.mk.injEq] at h
            obtain ⟨rfl, rfl⟩ := h
            refine key true (by rw [hgn]; rfl) (fun _ => hg) ?_
            rw [hgn]; exact hk
          · rename_i s want hgn
            split at h
            · rename_i c hgc
              simp only [Option.some.injEq, Prod.mk.injEq] at h
              obtain ⟨rfl, rfl⟩ := h
              refine key c (by rw [hgn]; exact hgc) hg ?_
              rw [hgn]; exact hk
            · cases h
    | false =>
      rw [hcv] at h
      simp only at h
      split at h
      · rename_i t x hop
        have hop : o.op = .box t x := hop
        split at h <;> try (cases h; done)
        rename_i d g' v h1 h2 h3
        split at h
        · cases h
        · rename_i he
          simp only [Option.some.injEq, Prod.mk.injEq] at h
          obtain ⟨rfl, rfl⟩ := h
          have h2 : o.dst = some d := h2
          have h1' : o.guard = none := by
            cases hgd : o.guard with
            | none => rfl
            | some gd => obtain ⟨sw, hsw⟩ := stripG_some (ops := ops) gd; simp only [stripO, hgd, hsw] at h1; cases h1
          have hkind : kindO esc false o = 1 := by simp only [kindO, hop, h2, h1']; simp [he]
          simp only [hkind]
          refine ⟨.box (st.gen d) v.cells, true, ⟨hd', ?_⟩, ?_⟩
          · simp only [hkind, hop, h2, h3]
            exact ⟨hg.1, hg.2, trivial, trivial⟩
          · rw [dstE_some h2]; simp only [act]; exact hk
      · rename_i t hop
        have hop : o.op = .alloc t := hop
        split at h <;> try (cases h; done)
        rename_i d z h1 h2 h3
        split at h
        · cases h
        · rename_i he
          simp only [Option.some.injEq, Prod.mk.injEq] at h
          obtain ⟨rfl, rfl⟩ := h
          have h2 : o.dst = some d := h2
          have h1' : o.guard = none := by
            cases hgd : o.guard with
            | none => rfl
            | some gd => obtain ⟨sw, hsw⟩ := stripG_some (ops := ops) gd; simp only [stripO, hgd, hsw] at h1; cases h1
          have hkind : kindO esc false o = 1 := by simp only [kindO, hop, h2, h1']; simp [he]
          simp only [hkind]
          refine ⟨.box (st.gen d) z.cells, true, ⟨hd', ?_⟩, ?_⟩
          · simp only [hkind, hop, h2, h3]
            exact ⟨trivial, trivial⟩
          · rw [dstE_some h2]; simp only [act]; exact hk
      · rename_i t a x hop
        have hop : o.op = .store t a x := hop
        rw [ownS_strip] at h
        cases ho : ownSt esc o with
        | some s =>
          rw [ho] at h
          obtain ⟨hkind, hdet⟩ := stepOwn_det (P := P) (n := n) (i := i) (m := false) (ops := ops) hop ho h hg hk
          simp only [hkind]
          exact hdet
        | none =>
          rw [ho] at h
          have hkind : kindO esc false o = 3 := by simp [kindO, hop, ho]
          simp only [hkind]
          exact opO_strip hs (step_sound h hg hk)
      · rename_i op n1 n2 n3
        cases hA : isA (stripO ops o).op with
        | false => rw [hA] at h; cases h
        | true =>
          cases hsf : safeB st.fr bad (stripO ops o).op with
          | false => rw [hA, hsf] at h; cases h
          | true =>
            rw [hA, hsf] at h
            simp only at h
            have hA' : isA o.op = true := hA
            have hkind : kindO esc false o = 0 := by
              have hcv' : isCallV o.op = false := hcv
              unfold kindO
              split
              · rename_i hx; exact absurd hx (n1 _ _)
              · rename_i hx; exact absurd hx (n2 _)
              · rename_i hx; rw [hx] at hcv'; cases hcv'
              · rename_i hx; exact absurd hx (n3 _ _ _)
              · rename_i hx; rw [hx] at hA'; cases hA'
              · simp [hA']
            simp only [hkind]
            have key : ∀ c v, guardS st.fr (stripO ops o).g = some c → (match evalQ P st.M st.fr o.op with
                | some (need, u) => (c = true → need) ∧ v = wrapS (stripO ops o).g c u
                | none => c = false ∧ o.guard.isSome = true ∧ v = .tup []) → K (setD st o.dst v) → ∃ v b, Det P n esc ops false i o st v b ∧ K (act st (dstE esc o) v b) := by
              intro c v hgc hev hkk
              refine ⟨v, false, ⟨hd', ?_⟩, ?_⟩
              · simp only [hkind, guardC_strip hs hgc, Bool.false_and, Bool.false_eq_true, if_false]
                cases hq : evalQ P st.M st.fr o.op with
                | none => rw [hq] at hev; exact ⟨hev.1, hev.2.1, by rw [hbad]; exact safe_of hsf, hev.2.2, trivial⟩
                | some gv =>
                  rw [hq] at hev
                  exact ⟨hev.1, by rw [hbad]; exact safe_of hsf, by rw [wrapG_strip (ops := ops)]; exact hev.2, trivial⟩
              · rw [dstE_of0 hkind]
                cases hdst : o.dst with
                | none => rw [hdst] at hkk; exact hkk
                | some d => rw [hdst] at hkk; exact hkk
            have hfalse : ((0 : Nat) == 3) = false := rfl
            simp only [hfalse, Bool.false_eq_true, if_false]
            have hop0 : (stripO ops o).op = o.op := rfl
            rw [hop0] at h
            split at h
            · rename_i hgn
              split at h <;> try (cases h; done)
              rename_i g' v he
              simp only [Option.some.injEq, Prod.mk.injEq] at h
              obtain ⟨rfl, rfl⟩ := h
              refine key true v (by rw [hgn]; rfl) ?_ hk
              rw [he, hgn]; exact ⟨fun _ => hg, rfl⟩
            · rename_i s want hgn
              have hgs : o.guard.isSome = true := by
                cases hgd : o.guard with
                | none => simp only [stripO, hgd, stripG] at hgn; cases hgn
                | some gd => rfl
              split at h <;> try (cases h; done)
              rename_i c hgc
              split at h
              · rename_i g' v he
                simp only [Option.some.injEq, Prod.mk.injEq] at h
                obtain ⟨rfl, rfl⟩ := h
                refine key c _ (by rw [hgn]; exact hgc) ?_ hk
                rw [he, hgn]; exact ⟨hg, rfl⟩
              · rename_i he
                simp only [Option.some.injEq, Prod.mk.injEq] at h
                obtain ⟨rfl, rfl⟩ := h
                refine key c _ (by rw [hgn]; exact hgc) ?_ hk
                rw [he]; exact ⟨hg, hgs, rfl⟩

theorem runD_sound (hT : TabOk P T) (hok : guardsOk ops = true) {bad : List Nat} (hbad : badD esc ops 0 = bad) : ∀ (f k : Nat) (st : St) {g : Prop} {st' : St}, k + f = ops.size → runD T P n esc bad ((ops.toList.drop k).map (stripO ops)) st = some (g, st') → g → K st' →
    seqT (opd P n esc ops false) K f k st
  | 0, k, st, g, st', hk, h, hg, hK => by
    have : ops.toList.drop k = [] := by apply List.drop_eq_nil_of_le; simp; omega
    rw [this] at h
    simp only [List.map_nil, runD, Option.some.injEq, Prod.mk.injEq] at h
    obtain ⟨rfl, rfl⟩ := h
    exact hK
  | f + 1, k, st, g, st', hk, h, hg, hK => by
    have hlt : k < ops.toList.length := by simp; omega
    rw [List.drop_eq_getElem_cons hlt, List.map_cons] at h
    simp only [runD] at h
    cases h1 : stepD T P n esc bad st.M (stripO ops ops.toList[k]) st with
    | none => rw [h1] at h; cases h
    | some gs =>
      obtain ⟨g1, st1⟩ := gs
      rw [h1] at h
      simp only at h
      cases h2 : runD T P n esc bad ((ops.toList.drop (k + 1)).map (stripO ops)) st1 with
      | none => rw [h2] at h; cases h
      | some gs =>
        obtain ⟨g2, st2⟩ := gs
        rw [h2] at h
        simp only [Option.some.injEq, Prod.mk.injEq] at h
        obtain ⟨rfl, rfl⟩ := h
        have ho := List.all_eq_true.1 hok ops.toList[k] (List.getElem_mem hlt)
        simp only [seqT]
        refine stepD_sound hT (o := ops.toList[k]) (by simp) (fun s want e => ?_) hbad h1 hg.1 (runD_sound hT hok hbad f (k + 1) st1 (by omega) h2 hg.2 hK)
        rw [e] at ho
        simpa using ho

theorem slots_bad (ops : Array Oper) : badD esc ops 0 = slots esc (ops.toList.map (stripO ops)) := by
  unfold badD
  have key : ∀ l : List Oper, l.filterMap (dstE esc) = slots esc (l.map (stripO ops)) := by
    intro l
    induction l with
    | nil => rfl
    | cons o l ih =>
      simp only [List.map_cons, slots, List.filterMap_cons]
      have h1 : (stripO ops o).d = o.dst := rfl
      rw [h1, ownS_strip, ← ih]
      have h2 : dstE esc o = match o.dst with | some d => some d | none => ownSt esc o := rfl
      rw [h2]
      cases o.dst with
      | some d => rfl
      | none =>
        simp only
        cases ownSt esc o with
        | some s => rfl
        | none => rfl
  exact key ops.toList

theorem wps_drawD (T : Tab) (hT : TabOk P T) (hok : guardsOk ops = true) (hl : ops.toList.map (stripO ops) = l)
    (hlex : lexA ops (indB esc ops false) ops.size 0 (Array.replicate ops.size false) = true)
    {g : Prop} (h : runD T P n esc (slots esc l) l st = some (g, st')) (hgk : g ∧ Q .normal st') : wps P n esc (.draw ops l) Q st := by
  subst hl
  exact ⟨false, hlex, runD_sound hT hok (slots_bad ops) ops.size 0 st (by simp) h hgk.1 hgk.2⟩
end
end Go.Eng
