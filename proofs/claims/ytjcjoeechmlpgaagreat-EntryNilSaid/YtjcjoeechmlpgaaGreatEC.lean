/- The engine, part 18: calls whose answer a table tells, and regions that draw their order, run. -/
import Derived.Test.YtjcjoeechmlpgaaGreatEB
namespace Go.Eng
set_option linter.unusedSimpArgs false
set_option linter.unusedVariables false

theorem eqV_tupl (P : Program) (n : Nat) (t : TypeId) (l : List V) (y : V) : eqV P n t (.tup l) y = none := by
  cases n with
  | zero => rfl
  | succ n => unfold eqV; split <;> first | rfl | (rename_i h; cases h; done) | (rename_i h _; cases h; done) | simp_all
theorem eqV_tupr (P : Program) (n : Nat) (t : TypeId) (l : List V) (x : V) : eqV P n t x (.tup l) = none := by
  cases n with
  | zero => rfl
  | succ n => unfold eqV; split <;> first | rfl | simp_all
theorem updH_self (M : Heap) (o : Nat) (h : HObj) : updH M o h o = some h := by simp [updH]
theorem updH_updH (M : Heap) (o : Nat) (h h' : HObj) : updH (updH M o h) o h' = updH M o h' := by funext k; simp only [updH]; split <;> rfl
theorem updH_same {M : Heap} {o : Nat} {h : HObj} (hm : M o = some h) : updH M o h = M := by funext k; simp only [updH]; split <;> simp_all
theorem fbt : (false == true) = false := rfl
theorem tbf : (true == false) = false := rfl

/-- What calls come to that leave the heap alone. -/
abbrev Tab := Heap → FuncId → List V → Option (Prop × V)
def TabOk (P : Program) (T : Tab) : Prop := ∀ M id vs g r, T M id vs = some (g, r) → g → Pure P id vs M r

def isCallV : Op → Bool
  | .call ⟨.value _, _, _⟩ => true
  | _ => false

def callOf : Op → Call
  | .call c => c
  | _ => ⟨.builtin .len, #[], #[]⟩

/-- A call by the table. -/
def stepC (T : Tab) (n : Nat) (o : SO) (st : St) : Option (Prop × St) :=
  match dstLt n o.d with
  | false => none
  | true =>
    match callV st.fr (callOf o.op) with
    | none => none
    | some (g, id, vs) =>
      match T st.M id vs with
      | none => none
      | some (g', r) =>
        match o.g with
        | none => some (g ∧ g', setD st o.d r)
        | some (s, want) =>
          match guardB want (st.fr s) with
          | some c => some (c = true → g ∧ g', setD st o.d (.when c r))
          | none => none

def stepT (T : Tab) (P : Program) (n : Nat) (esc : Nat → Bool) (o : SO) (st : St) : Option (Prop × St) :=
  match isCallV o.op with
  | true => stepC T n o st
  | false => step P n esc o st

def runT (T : Tab) (P : Program) (n : Nat) (esc : Nat → Bool) : List SO → St → Prop × St × List SO
  | [], st => (True, st, [])
  | o :: l, st =>
    match stepT T P n esc o st with
    | some (g, st') => (g ∧ (runT T P n esc l st').1, (runT T P n esc l st').2)
    | none => (True, st, o :: l)

section
variable {P : Program} {T : Tab} {n : Nat} {esc : Nat → Bool} {Q : Ex → St → Prop} {st st' : St} {l : List SO} {K K' : St → Prop} {o : SO}

theorem stepC_sound (hT : TabOk P T) {g : Prop} (hop : isCallV o.op = true) (h : stepC T n o st = some (g, st')) (hg : g) (hk : K st') : opO P n esc o K st := by
  unfold stepC at h
  obtain ⟨d, gd, op⟩ := o
  simp only at h hop
  cases hd : dstLt n d with
  | false => rw [hd] at h; cases h
  | true =>
    rw [hd] at h
    refine ⟨hd, ?_⟩
    simp only at h
    split at h
    · cases h
    · rename_i g1 id vs hc
      split at h
      · cases h
      · rename_i g2 r hr
        have hcall : ∃ f args ts, op = .call ⟨.value f, args, ts⟩ := by
          unfold isCallV at hop
          split at hop
          · exact ⟨_, _, _, rfl⟩
          · cases hop
        obtain ⟨f, args, ts, rfl⟩ := hcall
        simp only [callOf] at hc
        split at h
        · simp only [Option.some.injEq, Prod.mk.injEq] at h
          obtain ⟨rfl, rfl⟩ := h
          show opw P esc _ K st
          unfold opw
          simp only [SO.oper, hc]
          refine ⟨hg.1, _, hT _ _ _ _ _ hr hg.2, ?_⟩
          rintro r' M' ⟨rfl, rfl⟩
          exact hk
        · rename_i s want
          split at h
          · rename_i c hgc
            simp only [Option.some.injEq, Prod.mk.injEq] at h
            obtain ⟨rfl, rfl⟩ := h
            simp only [hgc]
            have hA : isA (.call ⟨.value f, args, ts⟩) = false := rfl
            simp only [hA]
            right
            unfold pcall
            simp only [SO.oper, hc]
            exact ⟨r, fun e => ⟨(hg e).1, hT _ _ _ _ _ hr (hg e).2⟩, hk⟩
          · cases h

theorem stepT_sound (hT : TabOk P T) {g : Prop} (h : stepT T P n esc o st = some (g, st')) (hg : g) (hk : K st') : opO P n esc o K st := by
  unfold stepT at h
  split at h
  · rename_i hc; exact stepC_sound hT hc h hg hk
  · exact step_sound h hg hk

theorem runT_sound (hT : TabOk P T) : ∀ (l : List SO) (st : St), (runT T P n esc l st).1 → oss P n esc (runT T P n esc l st).2.2 K (runT T P n esc l st).2.1 → oss P n esc l K st
  | [], st, _, h => h
  | o :: l, st, hg, h => by
    unfold runT at hg h
    cases hs : stepT T P n esc o st with
    | none => simp only [hs] at h; exact h
    | some gs =>
      obtain ⟨g, st'⟩ := gs
      simp only [hs] at hg h
      exact stepT_sound hT hs hg.1 (runT_sound hT l st' hg.2 h)

theorem wps_regT (T : Tab) (hT : TabOk P T) (h : (runT T P n esc l st).1 ∧ oss P n esc (runT T P n esc l st).2.2 (Q .normal) (runT T P n esc l st).2.1) : wps P n esc (.reg l) Q st := runT_sound hT l st h.1 h.2
theorem oss_runT (T : Tab) (hT : TabOk P T) (h : (runT T P n esc l st).1 ∧ oss P n esc (runT T P n esc l st).2.2 K (runT T P n esc l st).2.1) : oss P n esc l K st := runT_sound hT l st h.1 h.2

theorem oss_obl {g : Prop} (hg : g) (h : oss P n esc l K st) : g ∧ oss P n esc l K st := ⟨hg, h⟩

/-- Any operation, by the transformer. -/
theorem oss_op (hd : dstLt n o.d = true) (hg : o.g = none) (h : opw P esc o.oper (oss P n esc l K) st) : oss P n esc (o :: l) K st := by
  refine ⟨hd, ?_⟩
  rw [hg]
  exact h

/-- A call, by its contract. -/
theorem oss_call {d : Option Nat} {f : Operand} {args : Array Operand} {ts : Array TypeId} {g : Prop} {id : FuncId} {vs : List V} {Post : V → Heap → Prop} (hd : dstLt n d = true)
    (hc : callV st.fr ⟨.value f, args, ts⟩ = some (g, id, vs)) (hg : g) (hs : Spec P id vs st.M Post) (hk : ∀ r M', Post r M' → oss P n esc l K (setD { st with M := M' } d r)) : oss P n esc (⟨d, none, .call ⟨.value f, args, ts⟩⟩ :: l) K st := by
  refine ⟨hd, ?_⟩
  show opw P esc _ _ st
  unfold opw
  simp only [SO.oper, hc]
  exact ⟨hg, Post, hs, hk⟩
end

/-! ### Regions that draw their order -/
def guardS (fr : Nat → V) : Option (Nat × Bool) → Option Bool
  | none => some true
  | some (s, want) => guardB want (fr s)

def wrapS (g : Option (Nat × Bool)) (c : Bool) (v : V) : V :=
  match g with
  | none => v
  | some _ => .when c v

def memN (s : Nat) : List Nat → Bool
  | [] => false
  | d :: l => if s = d then true else memN s l

theorem memN_iff {s : Nat} : ∀ {l : List Nat}, memN s l = false → s ∉ l
  | [], _ => by simp
  | d :: l, h => by
    unfold memN at h
    split at h
    · cases h
    · rename_i hd
      simp [hd, memN_iff h]

/-- A store into a variable of the function's own, marked so: where. -/
def ownS (esc : Nat → Bool) (o : SO) : Option Nat :=
  match o.op with
  | .store _ (.tmp s) _ => match o.d, o.g with
    | none, none => if esc (s + 1000000) then some s else none
    | _, _ => none
  | _ => none

/-- The slots that a region writes. -/
def slots (esc : Nat → Bool) : List SO → List Nat
  | [] => []
  | o :: l => match o.d with
    | some d => d :: slots esc l
    | none => match ownS esc o with
      | some d => d :: slots esc l
      | none => slots esc l

def stepOwn (P : Program) (t : TypeId) (x : Operand) (s : Nat) (st : St) : Option (Prop × St) :=
  match ti P t, opv st.fr x, st.fr s with
  | some T, some (g, u), .box g' cs => some (g ∧ u.cells.length ≤ cs.length ∧ u.cells.length = T.size ∧ u.tag < 20 ∧ (∀ c ∈ u.cells, cellOk c = true), ⟨upd st.fr s (.box g' (splice cs 0 u.cells)), st.M, st.gen⟩)
  | _, _, _ => none

def safeB (fr : Nat → V) (bad : List Nat) (op : Op) : Bool :=
  match reads fr op with
  | some s => !memN s bad
  | none => true

/-- One operation of such a region that leaves memory alone, or makes a variable, or is a call by the table. -/
def stepD (T : Tab) (P : Program) (n : Nat) (esc : Nat → Bool) (bad : List Nat) (H : Heap) (o : SO) (st : St) : Option (Prop × St) :=
  match dstLt n o.d with
  | false => none
  | true =>
    match isCallV o.op with
    | true => stepC T n o st
    | false =>
      match o.op with
      | .box _ x =>
        match o.g, o.d, opv st.fr x with
        | none, some d, some (g, v) => if esc d then none else some (g ∧ v.tag < 20, ⟨upd st.fr d (.box (st.gen d) v.cells), st.M, bump st.gen d⟩)
        | _, _, _ => none
      | .alloc t =>
        match o.g, o.d, zeroV P t with
        | none, some d, some z => if esc d then none else some (True, ⟨upd st.fr d (.box (st.gen d) z.cells), st.M, bump st.gen d⟩)
        | _, _, _ => none
      | .store t _ x => match ownS esc o with
        | some s => stepOwn P t x s st
        | none => step P n esc o st
      | op =>
        match isA op, safeB st.fr bad op with
        | true, true =>
          match o.g with
          | none => match evalQ P H st.fr op with
            | some (g, v) => some (g, setD st o.d v)
            | none => none
          | some (s, want) =>
            match guardB want (st.fr s) with
            | some c => match evalQ P H st.fr op with
              | some (g, v) => some (c = true → g, setD st o.d (.when c v))
              | none => some (c = false, setD st o.d (.tup []))
            | none => none
        | _, _ => none

/-- All of it, where no call writes. -/
def runD (T : Tab) (P : Program) (n : Nat) (esc : Nat → Bool) (bad : List Nat) : List SO → St → Option (Prop × St)
  | [], st => some (True, st)
  | o :: l, st =>
    match stepD T P n esc bad st.M o st with
    | some (g, st') => match runD T P n esc bad l st' with
      | some (g', st'') => some (g ∧ g', st'')
      | none => none
    | none => none

section
variable {P : Program} {T : Tab} {n : Nat} {esc : Nat → Bool} {Q : Ex → St → Prop} {st st' : St} {l : List SO} {K K' : St → Prop} {o : SO} {ops : Array Oper}

theorem guardC_strip {o : Oper} {fr : Nat → V} {c : Bool} (hs : ∀ s want, stripG ops o.guard = some (s, want) → s ≠ 1000000) (h : guardS fr (stripO ops o).g = some c) : guardC ops fr o.guard = some c := by
  cases hg : o.guard with
  | none => simpa [stripO, hg, stripG, guardS, guardC] using h
  | some gd =>
    simp only [guardC]
    rw [hg] at hs
    refine guardOf_strip fr gd c ?_ hs
    have : (stripO ops o).g = stripG ops (some gd) := by rw [← hg]; rfl
    rw [this] at h
    cases hsg : stripG ops (some gd) with
    | none =>
      obtain ⟨j, want⟩ := gd
      simp only [stripG] at hsg
      split at hsg <;> try (cases hsg; done)
      split at hsg <;> cases hsg
    | some sw => rw [hsg] at h; exact h

theorem stripG_some (gd : Nat × Bool) : ∃ sw, stripG ops (some gd) = some sw := by
  obtain ⟨j, want⟩ := gd
  simp only [stripG]
  split
  · split <;> exact ⟨_, rfl⟩
  · exact ⟨_, rfl⟩

theorem wrapG_strip (o : Oper) (c : Bool) (v : V) : wrapG o.guard c v = wrapS (stripO ops o).g c v := by
  cases hg : o.guard with
  | none => simp [stripO, hg, stripG, wrapG, wrapS]
  | some gd =>
    obtain ⟨sw, h⟩ := stripG_some (ops := ops) gd
    simp [stripO, hg, h, wrapG, wrapS]

theorem safe_of {fr : Nat → V} {bad : List Nat} {op : Op} (h : safeB fr bad op = true) : safe fr bad op := by
  intro s hs
  unfold safeB at h
  rw [hs] at h
  exact memN_iff (by simpa using h)

theorem ownS_strip (o : Oper) : ownS esc (stripO ops o) = ownSt esc o := by
  unfold ownS ownSt
  have h1 : (stripO ops o).op = o.op := rfl
  have h2 : (stripO ops o).d = o.dst := rfl
  rw [h1, h2]
  cases o.op <;> try rfl
  rename_i t a x
  cases a <;> try rfl
  rename_i s
  simp only
  cases hd : o.dst with
  | some d => rfl
  | none =>
    cases hg : o.guard with
    | none =>
      have h3 : (stripO ops o).g = none := by simp [stripO, hg, stripG]
      simp only [h3]
    | some gd =>
      obtain ⟨sw, hsw⟩ := stripG_some (ops := ops) gd
      have h3 : (stripO ops o).g = some sw := by simp [stripO, hg, hsw]
      simp only [h3]

theorem stepOwn_det {i : Nat} {o : Oper} {m : Bool} {g : Prop} {t : TypeId} {a x : Operand} {s : Nat} (hop : o.op = .store t a x) (ho : ownSt esc o = some s) (h : stepOwn P t x s st = some (g, st')) (hg : g) (hk : K st') :
    kindO esc m o = 1 ∧ ∃ v b, Det P n esc ops m i o st v b ∧ K (act st (dstE esc o) v b) := by
  have hkind : kindO esc m o = 1 := by simp only [kindO, hop, ho]
  refine ⟨hkind, ?_⟩
  have h0 := ho
  unfold ownSt at h0
  split at h0 <;> try (cases h0; done)
  rename_i t' s' x' h1 h2 h3
  split at h0 <;> try (cases h0; done)
  cases h0
  rw [hop] at h1
  cases h1
  unfold stepOwn at h
  split at h <;> try (cases h; done)
  rename_i T g1 u g' cs k1 k2 k3
  simp only [Option.some.injEq, Prod.mk.injEq] at h
  obtain ⟨rfl, rfl⟩ := h
  refine ⟨.box g' (splice cs 0 u.cells), false, ⟨by rw [h2]; rfl, ?_⟩, ?_⟩
  · simp only [hkind, hop, h2, k1, k2, k3]
    exact ⟨hg.1, hg.2.1, hg.2.2.1, hg.2.2.2.1, hg.2.2.2.2, trivial, trivial⟩
  · have hds : dstE esc o = some s := by unfold dstE; rw [h2]; exact ho
    rw [hds]
    exact hk

theorem stepD_sound (hT : TabOk P T) {i : Nat} {o : Oper} {bad : List Nat} {g : Prop} (hi : ops[i]? = some o) (hs : ∀ s want, stripG ops o.guard = some (s, want) → s ≠ 1000000) (hbad : badD esc ops i = bad)
    (h : stepD T P n esc bad st.M (stripO ops o) st = some (g, st')) (hg : g) (hk : K st') : opd P n esc ops false i K st := by
  unfold stepD at h
  cases hd : dstLt n (stripO ops o).d with
  | false => rw [hd] at h; cases h
  | true =>
    rw [hd] at h
    have hd' : dstLt n o.dst = true := hd
    simp only at h
    unfold opd
    simp only [hi, Bool.and_false, Bool.false_and, Bool.false_eq_true, if_false]
    cases hcv : isCallV (stripO ops o).op with
    | true =>
      rw [hcv] at h
      simp only at h
      have hcall : ∃ f args ts, o.op = .call ⟨.value f, args, ts⟩ := by
        unfold isCallV at hcv
        split at hcv
        · rename_i hx; exact ⟨_, _, _, hx⟩
        · cases hcv
      obtain ⟨f, args, ts, hop⟩ := hcall
      have hkind : kindO esc false o = 2 := by simp only [kindO, hop]
      simp only [hkind]
      unfold stepC at h
      rw [hd] at h
      simp only at h
      have hop' : callOf (stripO ops o).op = ⟨.value f, args, ts⟩ := by simp only [stripO, hop, callOf]
      rw [hop'] at h
      split at h
      · cases h
      · rename_i g1 id vs hc
        split at h
        · cases h
        · rename_i g2 r hr
          have key : ∀ c, guardS st.fr (stripO ops o).g = some c → (c = true → g1 ∧ g2) → K (setD st o.dst (wrapS (stripO ops o).g c r)) → ∃ v b, Det P n esc ops false i o st v b ∧ K (act st (dstE esc o) v b) := by
            intro c hgc hgg hkk
            refine ⟨wrapG o.guard c r, false, ⟨hd', ?_⟩, ?_⟩
            · simp only [hkind, guardC_strip hs hgc, hop, hc]
              exact ⟨r, fun e => ⟨(hgg e).1, hT _ _ _ _ _ hr (hgg e).2⟩, rfl, trivial⟩
            · rw [wrapG_strip (ops := ops), dstE_op (fun t a x e => by rw [hop] at e; cases e)]
              cases hdst : o.dst with
              | none => rw [hdst] at hkk; exact hkk
              | some d => rw [hdst] at hkk; exact hkk
          have hfalse : ((2 : Nat) == 3) = false := rfl
          have hfalse5 : ((2 : Nat) == 5) = false := rfl
          simp only [hfalse, hfalse5, Bool.false_eq_true, if_false]
          split at h
          · rename_i hgn
            simp only [Option.some.injEq, Prod.mk.injEq] at h
            obtain ⟨rfl, rfl⟩ := h
            refine key true (by rw [hgn]; rfl) (fun _ => hg) ?_
            rw [hgn]; exact hk
          · rename_i s want hgn
            split at h
            · rename_i c hgc
              simp only [Option.some.injEq, Prod.mk.injEq] at h
              obtain ⟨rfl, rfl⟩ := h
              refine key c (by rw [hgn]; exact hgc) hg ?_
              rw [hgn]; exact hk
            · cases h
    | false =>
      rw [hcv] at h
      simp only at h
      split at h
      · rename_i t x hop
        have hop : o.op = .box t x := hop
        split at h <;> try (cases h; done)
        rename_i d g' v h1 h2 h3
        split at h
        · cases h
        · rename_i he
          simp only [Option.some.injEq, Prod.mk.injEq] at h
          obtain ⟨rfl, rfl⟩ := h
          have h2 : o.dst = some d := h2
          have h1' : o.guard = none := by
            cases hgd : o.guard with
            | none => rfl
            | some gd => obtain ⟨sw, hsw⟩ := stripG_some (ops := ops) gd; simp only [stripO, hgd, hsw] at h1; cases h1
          have hkind : kindO esc false o = 1 := by simp only [kindO, hop, h2, h1']; simp [he]
          simp only [hkind]
          refine ⟨.box (st.gen d) v.cells, true, ⟨hd', ?_⟩, ?_⟩
          · simp only [hkind, hop, h2, h3]
            exact ⟨hg.1, hg.2, trivial, trivial⟩
          · rw [dstE_some h2]; simp only [act]; exact hk
      · rename_i t hop
        have hop : o.op = .alloc t := hop
        split at h <;> try (cases h; done)
        rename_i d z h1 h2 h3
        split at h
        · cases h
        · rename_i he
          simp only [Option.some.injEq, Prod.mk.injEq] at h
          obtain ⟨rfl, rfl⟩ := h
          have h2 : o.dst = some d := h2
          have h1' : o.guard = none := by
            cases hgd : o.guard with
            | none => rfl
            | some gd => obtain ⟨sw, hsw⟩ := stripG_some (ops := ops) gd; simp only [stripO, hgd, hsw] at h1; cases h1
          have hkind : kindO esc false o = 1 := by simp only [kindO, hop, h2, h1']; simp [he]
          simp only [hkind]
          refine ⟨.box (st.gen d) z.cells, true, ⟨hd', ?_⟩, ?_⟩
          · simp only [hkind, hop, h2, h3]
            exact ⟨trivial, trivial⟩
          · rw [dstE_some h2]; simp only [act]; exact hk
      · rename_i t a x hop
        have hop : o.op = .store t a x := hop
        rw [ownS_strip] at h
        cases ho : ownSt esc o with
        | some s =>
          rw [ho] at h
          obtain ⟨hkind, hdet⟩ := stepOwn_det (P := P) (n := n) (i := i) (m := false) (ops := ops) hop ho h hg hk
          simp only [hkind]
          exact hdet
        | none =>
          rw [ho] at h
          have hkind : kindO esc false o = 3 := by simp [kindO, hop, ho]
          simp only [hkind]
          exact opO_strip hs (step_sound h hg hk)
      · rename_i op n1 n2 n3
        cases hA : isA (stripO ops o).op with
        | false => rw [hA] at h; cases h
        | true =>
          cases hsf : safeB st.fr bad (stripO ops o).op with
          | false => rw [hA, hsf] at h; cases h
          | true =>
            rw [hA, hsf] at h
            simp only at h
            have hA' : isA o.op = true := hA
            have hkind : kindO esc false o = 0 := by
              have hcv' : isCallV o.op = false := hcv
              unfold kindO
              split
              · rename_i hx; exact absurd hx (n1 _ _)
              · rename_i hx; exact absurd hx (n2 _)
              · rename_i hx; rw [hx] at hcv'; cases hcv'
              · rename_i hx; exact absurd hx (n3 _ _ _)
              · rename_i hx; rw [hx] at hA'; cases hA'
              · simp [hA']
            simp only [hkind]
            have key : ∀ c v, guardS st.fr (stripO ops o).g = some c → (match evalQ P st.M st.fr o.op with
                | some (need, u) => (c = true → need) ∧ v = wrapS (stripO ops o).g c u
                | none => c = false ∧ o.guard.isSome = true ∧ v = .tup []) → K (setD st o.dst v) → ∃ v b, Det P n esc ops false i o st v b ∧ K (act st (dstE esc o) v b) := by
              intro c v hgc hev hkk
              refine ⟨v, false, ⟨hd', ?_⟩, ?_⟩
              · simp only [hkind, guardC_strip hs hgc, Bool.false_and, Bool.false_eq_true, if_false]
                cases hq : evalQ P st.M st.fr o.op with
                | none => rw [hq] at hev; exact ⟨hev.1, hev.2.1, by rw [hbad]; exact safe_of hsf, hev.2.2, trivial⟩
                | some gv =>
                  rw [hq] at hev
                  exact ⟨hev.1, by rw [hbad]; exact safe_of hsf, by rw [wrapG_strip (ops := ops)]; exact hev.2, trivial⟩
              · rw [dstE_of0 hkind]
                cases hdst : o.dst with
                | none => rw [hdst] at hkk; exact hkk
                | some d => rw [hdst] at hkk; exact hkk
            have hfalse : ((0 : Nat) == 3) = false := rfl
            have hfalse5 : ((0 : Nat) == 5) = false := rfl
            simp only [hfalse, hfalse5, Bool.false_eq_true, if_false]
            have hop0 : (stripO ops o).op = o.op := rfl
            rw [hop0] at h
            split at h
            · rename_i hgn
              split at h <;> try (cases h; done)
              rename_i g' v he
              simp only [Option.some.injEq, Prod.mk.injEq] at h
              obtain ⟨rfl, rfl⟩ := h
              refine key true v (by rw [hgn]; rfl) ?_ hk
              rw [he, hgn]; exact ⟨fun _ => hg, rfl⟩
            · rename_i s want hgn
              have hgs : o.guard.isSome = true := by
                cases hgd : o.guard with
                | none => simp only [stripO, hgd, stripG] at hgn; cases hgn
                | some gd => rfl
              split at h <;> try (cases h; done)
              rename_i c hgc
              split at h
              · rename_i g' v he
                simp only [Option.some.injEq, Prod.mk.injEq] at h
                obtain ⟨rfl, rfl⟩ := h
                refine key c _ (by rw [hgn]; exact hgc) ?_ hk
                rw [he, hgn]; exact ⟨hg, rfl⟩
              · rename_i he
                simp only [Option.some.injEq, Prod.mk.injEq] at h
                obtain ⟨rfl, rfl⟩ := h
                refine key c _ (by rw [hgn]; exact hgc) ?_ hk
                rw [he]; exact ⟨hg, hgs, rfl⟩

theorem runD_sound (hT : TabOk P T) (hok : guardsOk ops = true) {bad : List Nat} (hbad : badD esc ops 0 = bad) : ∀ (f k : Nat) (st : St) {g : Prop} {st' : St}, k + f = ops.size → runD T P n esc bad ((ops.toList.drop k).map (stripO ops)) st = some (g, st') → g → K st' →
    seqT (opd P n esc ops false) K f k st
  | 0, k, st, g, st', hk, h, hg, hK => by
    have : ops.toList.drop k = [] := by apply List.drop_eq_nil_of_le; simp; omega
    rw [this] at h
    simp only [List.map_nil, runD, Option.some.injEq, Prod.mk.injEq] at h
    obtain ⟨rfl, rfl⟩ := h
    exact hK
  | f + 1, k, st, g, st', hk, h, hg, hK => by
    have hlt : k < ops.toList.length := by simp; omega
    rw [List.drop_eq_getElem_cons hlt, List.map_cons] at h
    simp only [runD] at h
    cases h1 : stepD T P n esc bad st.M (stripO ops ops.toList[k]) st with
    | none => rw [h1] at h; cases h
    | some gs =>
      obtain ⟨g1, st1⟩ := gs
      rw [h1] at h
      simp only at h
      cases h2 : runD T P n esc bad ((ops.toList.drop (k + 1)).map (stripO ops)) st1 with
      | none => rw [h2] at h; cases h
      | some gs =>
        obtain ⟨g2, st2⟩ := gs
        rw [h2] at h
        simp only [Option.some.injEq, Prod.mk.injEq] at h
        obtain ⟨rfl, rfl⟩ := h
        have ho := List.all_eq_true.1 hok ops.toList[k] (List.getElem_mem hlt)
        simp only [seqT]
        refine stepD_sound hT (o := ops.toList[k]) (by simp) (fun s want e => ?_) hbad h1 hg.1 (runD_sound hT hok hbad f (k + 1) st1 (by omega) h2 hg.2 hK)
        rw [e] at ho
        simpa using ho

theorem slots_bad (ops : Array Oper) : badD esc ops 0 = slots esc (ops.toList.map (stripO ops)) := by
  unfold badD
  have key : ∀ l : List Oper, l.filterMap (dstE esc) = slots esc (l.map (stripO ops)) := by
    intro l
    induction l with
    | nil => rfl
    | cons o l ih =>
      simp only [List.map_cons, slots, List.filterMap_cons]
      have h1 : (stripO ops o).d = o.dst := rfl
      rw [h1, ownS_strip, ← ih]
      have h2 : dstE esc o = match o.dst with | some d => some d | none => ownSt esc o := rfl
      rw [h2]
      cases o.dst with
      | some d => rfl
      | none =>
        simp only
        cases ownSt esc o with
        | some s => rfl
        | none => rfl
  exact key ops.toList

theorem wps_drawD (T : Tab) (hT : TabOk P T) (hok : guardsOk ops = true) (hl : ops.toList.map (stripO ops) = l)
    (hlex : lexF ops (indB esc ops false) ops.size 0 = true)
    {g : Prop} (h : runD T P n esc (slots esc l) l st = some (g, st')) (hgk : g ∧ Q .normal st') : wps P n esc (.draw ops l) Q st := by
  subst hl
  exact fun _ => ⟨false, hlex, runD_sound hT hok (slots_bad ops) ops.size 0 st (by simp) h hgk.1 hgk.2⟩
end
end Go.Eng

/- The engine, part 19: calls that write the heap, by a table; regions that draw their order and write the heap. -/
namespace Go.Eng
set_option linter.unusedSimpArgs false
set_option linter.unusedVariables false

/-- What calls come to that write the heap, in one way only. -/
abbrev WTab := Heap → FuncId → List V → Option (Prop × V × Heap)
def WTabOk (P : Program) (W : WTab) : Prop := ∀ M id vs g r M', W M id vs = some (g, r, M') → g → Spec P id vs M fun r' M'' => r' = r ∧ M'' = M'

/-- A call, by either table. -/
def stepCW (T : Tab) (W : WTab) (n : Nat) (o : SO) (st : St) : Option (Prop × St) :=
  match dstLt n o.d with
  | false => none
  | true =>
    match callV st.fr (callOf o.op) with
    | none => none
    | some (g, id, vs) =>
      match T st.M id vs with
      | some (g', r) =>
        match o.g with
        | none => some (g ∧ g', setD st o.d r)
        | some (s, want) =>
          match guardB want (st.fr s) with
          | some c => some (c = true → g ∧ g', setD st o.d (.when c r))
          | none => none
      | none =>
        match W st.M id vs with
        | some (g', r, M') =>
          match o.g with
          | none => some (g ∧ g', setD { st with M := M' } o.d r)
          | some (s, want) =>
            match guardB want (st.fr s) with
            | some true => some (g ∧ g', setD { st with M := M' } o.d r)
            | some false => some (True, setD st o.d (.tup []))
            | none => none
        | none => none

def stepW (T : Tab) (W : WTab) (P : Program) (n : Nat) (esc : Nat → Bool) (o : SO) (st : St) : Option (Prop × St) :=
  match isCallV o.op with
  | true => stepCW T W n o st
  | false => step P n esc o st

def runW (T : Tab) (W : WTab) (P : Program) (n : Nat) (esc : Nat → Bool) : List SO → St → Prop × St × List SO
  | [], st => (True, st, [])
  | o :: l, st =>
    match stepW T W P n esc o st with
    | some (g, st') => (g ∧ (runW T W P n esc l st').1, (runW T W P n esc l st').2)
    | none => (True, st, o :: l)

section
variable {P : Program} {T : Tab} {W : WTab} {n : Nat} {esc : Nat → Bool} {Q : Ex → St → Prop} {st st' : St} {l : List SO} {K K' : St → Prop} {o : SO}

theorem stepCW_sound (hT : TabOk P T) (hW : WTabOk P W) {g : Prop} (hop : isCallV o.op = true) (h : stepCW T W n o st = some (g, st')) (hg : g) (hk : K st') : opO P n esc o K st := by
  unfold stepCW at h
  obtain ⟨d, gd, op⟩ := o
  simp only at h hop
  cases hd : dstLt n d with
  | false => rw [hd] at h; cases h
  | true =>
    rw [hd] at h
    simp only at h
    have hcall : ∃ f args ts, op = .call ⟨.value f, args, ts⟩ := by
      unfold isCallV at hop
      split at hop
      · exact ⟨_, _, _, rfl⟩
      · cases hop
    obtain ⟨f, args, ts, rfl⟩ := hcall
    simp only [callOf] at h
    split at h
    · cases h
    · rename_i g1 id vs hc
      split at h
      · rename_i g2 r hr
        refine stepC_sound hT (st' := st') (g := g) hop ?_ hg hk
        unfold stepC
        simp only [hd, callOf, hc, hr]
        exact h
      · split at h <;> try (cases h; done)
        rename_i g2 r M1 hw
        split at h
        · simp only [Option.some.injEq, Prod.mk.injEq] at h
          obtain ⟨rfl, rfl⟩ := h
          refine ⟨hd, ?_⟩
          show opw P esc _ K st
          unfold opw
          simp only [SO.oper, hc]
          refine ⟨hg.1, _, hW _ _ _ _ _ _ hw hg.2, ?_⟩
          rintro r' M' ⟨rfl, rfl⟩
          exact hk
        · rename_i s want
          split at h
          · rename_i hgc
            simp only [Option.some.injEq, Prod.mk.injEq] at h
            obtain ⟨rfl, rfl⟩ := h
            refine ⟨hd, ?_⟩
            simp only [hgc]
            refine .inl ⟨fun _ => ?_, fun e => by cases e⟩
            unfold opw
            simp only [SO.oper, hc]
            refine ⟨hg.1, _, hW _ _ _ _ _ _ hw hg.2, ?_⟩
            rintro r' M' ⟨rfl, rfl⟩
            exact hk
          · rename_i hgc
            simp only [Option.some.injEq, Prod.mk.injEq] at h
            obtain ⟨rfl, rfl⟩ := h
            refine ⟨hd, ?_⟩
            simp only [hgc]
            exact .inl ⟨fun e => (by cases e), fun _ => hk⟩
          · cases h

theorem stepW_sound (hT : TabOk P T) (hW : WTabOk P W) {g : Prop} (h : stepW T W P n esc o st = some (g, st')) (hg : g) (hk : K st') : opO P n esc o K st := by
  unfold stepW at h
  split at h
  · rename_i hc; exact stepCW_sound hT hW hc h hg hk
  · exact step_sound h hg hk

theorem runW_sound (hT : TabOk P T) (hW : WTabOk P W) : ∀ (l : List SO) (st : St), (runW T W P n esc l st).1 → oss P n esc (runW T W P n esc l st).2.2 K (runW T W P n esc l st).2.1 → oss P n esc l K st
  | [], st, _, h => h
  | o :: l, st, hg, h => by
    unfold runW at hg h
    cases hs : stepW T W P n esc o st with
    | none => simp only [hs] at h; exact h
    | some gs =>
      obtain ⟨g, st'⟩ := gs
      simp only [hs] at hg h
      exact stepW_sound hT hW hs hg.1 (runW_sound hT hW l st' hg.2 h)

theorem wps_regW (T : Tab) (W : WTab) (hT : TabOk P T) (hW : WTabOk P W) (h : (runW T W P n esc l st).1 ∧ oss P n esc (runW T W P n esc l st).2.2 (Q .normal) (runW T W P n esc l st).2.1) : wps P n esc (.reg l) Q st := runW_sound hT hW l st h.1 h.2
theorem oss_runW (T : Tab) (W : WTab) (hT : TabOk P T) (hW : WTabOk P W) (h : (runW T W P n esc l st).1 ∧ oss P n esc (runW T W P n esc l st).2.2 K (runW T W P n esc l st).2.1) : oss P n esc l K st := runW_sound hT hW l st h.1 h.2
end

/-! ### Regions that draw their order, and write the heap -/
def isPtr : V → Bool
  | .ptr _ _ => true
  | _ => false

def stepM (T : Tab) (W : WTab) (P : Program) (n : Nat) (esc : Nat → Bool) (bad : List Nat) (H : Heap) (o : SO) (st : St) : Option (Prop × St) :=
  match dstLt n o.d with
  | false => none
  | true =>
    match isCallV o.op with
    | true =>
      match o.g with
      | none => stepCW T W n o st
      | some _ => none
    | false =>
      match o.op with
      | .box _ x =>
        match o.g, o.d, opv st.fr x with
        | none, some d, some (g, v) => if esc d then none else some (g ∧ v.tag < 20, ⟨upd st.fr d (.box (st.gen d) v.cells), st.M, bump st.gen d⟩)
        | _, _, _ => none
      | .alloc t =>
        match o.g, o.d, zeroV P t with
        | none, some d, some z => if esc d then none else some (True, ⟨upd st.fr d (.box (st.gen d) z.cells), st.M, bump st.gen d⟩)
        | _, _, _ => none
      | .store t a x =>
        match ownS esc o with
        | some s => stepOwn P t x s st
        | none =>
        match o.g, ti P t, opv st.fr a, opv st.fr x with
        | none, some T', some (g, .ptr ob off), some (g', v) =>
          match st.M ob with
          | some (.cells cs) => some (g ∧ g' ∧ off + v.cells.length ≤ cs.length ∧ v.cells.length = T'.size ∧ v.tag < 20 ∧ (∀ c ∈ v.cells, cellOk c = true), setD { st with M := updH st.M ob (.cells (splice cs off v.cells)) } o.d (.tup []))
          | _ => none
        | _, _, _, _ => none
      | .mapUpdate t m k x =>
        match o.g, P.underlying t, opv st.fr m, opv st.fr k, opv st.fr x with
        | none, some (.map kt _), some (g, .map ob), some (g', kv), some (g'', v) =>
          match P.underlying kt, st.M ob with
          | some d, some (.map kvs) =>
            match setKV kv v kvs with
            | some r => some (g ∧ g' ∧ g'' ∧ keyKind d kv = true ∧ v.tag < 20, setD { st with M := updH st.M ob (.map r) } o.d (.tup []))
            | none => none
          | _, _ => none
        | _, _, _, _, _ => none
      | op =>
        match isA op, safeB st.fr bad op with
        | true, true =>
          match o.g with
          | none => match evalQ P H st.fr op with
            | some (g, v) => some (g, setD st o.d v)
            | none => none
          | some (s, want) =>
            match guardB want (st.fr s) with
            | some c => match evalQ P H st.fr op with
              | some (g, v) => some (c = true → g, setD st o.d (.when c v))
              | none => none
            | none => none
        | _, _ => none

/-- All of it. 'nb': what may read the heap. -/
def runM (T : Tab) (W : WTab) (P : Program) (n : Nat) (esc : Nat → Bool) (bad nb : List Nat) : Nat → List SO → St → Option (Prop × St)
  | _, [], st => some (True, st)
  | i, o :: l, st =>
    match stepM T W P n esc bad (bif memN i nb then st.M else emptyH) o st with
    | some (g, st') => match runM T W P n esc bad nb (i + 1) l st' with
      | some (g', st'') => some (g ∧ g', st'')
      | none => none
    | none => none

section
variable {P : Program} {T : Tab} {W : WTab} {n : Nat} {esc : Nat → Bool} {Q : Ex → St → Prop} {st st' : St} {l : List SO} {K K' : St → Prop} {ops : Array Oper}

theorem stepM_sound (hT : TabOk P T) (hW : WTabOk P W) {i : Nat} {o : Oper} {bad : List Nat} {g : Prop} {H : Heap} (hi : ops[i]? = some o) (hs : ∀ s want, stripG ops o.guard = some (s, want) → s ≠ 1000000) (hbad : badD esc ops i = bad)
    (hH : H = emptyH ∨ (H = st.M ∧ blindB esc true ops i = false))
    (h : stepM T W P n esc bad H (stripO ops o) st = some (g, st')) (hg : g) (hk : K st') : opd P n esc ops true i K st := by
  unfold stepM at h
  cases hd : dstLt n (stripO ops o).d with
  | false => rw [hd] at h; cases h
  | true =>
    rw [hd] at h
    have hd' : dstLt n o.dst = true := hd
    simp only at h
    unfold opd
    simp only [hi]
    have hgn : (stripO ops o).g = none → o.guard = none := by
      intro h1
      cases hgd : o.guard with
      | none => rfl
      | some gd => obtain ⟨sw, hsw⟩ := stripG_some (ops := ops) gd; simp only [stripO, hgd, hsw] at h1; cases h1
    cases hcv : isCallV (stripO ops o).op with
    | true =>
      rw [hcv] at h
      simp only at h
      have hcall : ∃ f args ts, o.op = .call ⟨.value f, args, ts⟩ := by
        unfold isCallV at hcv
        split at hcv
        · rename_i hx; exact ⟨_, _, _, hx⟩
        · cases hcv
      obtain ⟨f, args, ts, hop⟩ := hcall
      have hkind : kindO esc true o = 2 := by simp only [kindO, hop]
      simp only [hkind]
      have hfalse : ((2 : Nat) == 3) = false := rfl
      have hfalse5 : ((2 : Nat) == 5) = false := rfl
      simp only [hfalse, hfalse5, Bool.false_eq_true, if_false, beq_self_eq_true, Bool.and_self, if_true]
      split at h <;> try (cases h; done)
      rename_i hg0
      have hg1 := hgn hg0
      unfold stepCW at h
      rw [hd] at h
      simp only at h
      have hop' : callOf (stripO ops o).op = ⟨.value f, args, ts⟩ := by simp only [stripO, hop, callOf]
      rw [hop'] at h
      split at h
      · cases h
      · rename_i g1 id vs hc
        have key : ∀ (r : V) (M' : Heap) (g2 : Prop), (g2 → Spec P id vs st.M fun r' M'' => r' = r ∧ M'' = M') → (g1 ∧ g2) → K (setD { st with M := M' } o.dst r) →
            ∃ S, May P n ops o st S ∧ ∀ r M', S r M' → K ((setD st o.dst r).withM M') := by
          intro r M' g2 hsp hgg hkk
          refine ⟨fun r' M'' => r' = r ∧ M'' = M', ⟨hd', ⟨r, M', rfl, rfl⟩, ?_⟩, ?_⟩
          · simp only [hop, guardC, hg1, hc]
            exact ⟨fun _ => ⟨hgg.1, hsp hgg.2⟩, fun e => by cases e⟩
          · rintro r' M'' ⟨rfl, rfl⟩
            rw [withM_setD]; exact hkk
        split at h
        · rename_i g2 r hr
          rw [hg0] at h
          simp only [Option.some.injEq, Prod.mk.injEq] at h
          obtain ⟨rfl, rfl⟩ := h
          exact key r st.M g2 (fun e => hT _ _ _ _ _ hr e) hg hk
        · rw [hg0] at h
          split at h <;> try (cases h; done)
          rename_i g2 r M1 hw
          simp only [Option.some.injEq, Prod.mk.injEq] at h
          obtain ⟨rfl, rfl⟩ := h
          exact key r M1 g2 (fun e => hW _ _ _ _ _ _ hw e) hg hk
    | false =>
      rw [hcv] at h
      simp only at h
      split at h
      · rename_i t x hop
        have hop : o.op = .box t x := hop
        split at h <;> try (cases h; done)
        rename_i d g' v h1 h2 h3
        split at h
        · cases h
        · rename_i he
          simp only [Option.some.injEq, Prod.mk.injEq] at h
          obtain ⟨rfl, rfl⟩ := h
          have h2 : o.dst = some d := h2
          have h1' := hgn h1
          have hkind : kindO esc true o = 1 := by simp only [kindO, hop, h2, h1']; simp [he]
          simp only [hkind]
          refine ⟨.box (st.gen d) v.cells, true, ⟨hd', ?_⟩, ?_⟩
          · simp only [hkind, hop, h2, h3]
            exact ⟨hg.1, hg.2, trivial, trivial⟩
          · rw [dstE_some h2]; simp only [act]; exact hk
      · rename_i t hop
        have hop : o.op = .alloc t := hop
        split at h <;> try (cases h; done)
        rename_i d z h1 h2 h3
        split at h
        · cases h
        · rename_i he
          simp only [Option.some.injEq, Prod.mk.injEq] at h
          obtain ⟨rfl, rfl⟩ := h
          have h2 : o.dst = some d := h2
          have h1' := hgn h1
          have hkind : kindO esc true o = 1 := by simp only [kindO, hop, h2, h1']; simp [he]
          simp only [hkind]
          refine ⟨.box (st.gen d) z.cells, true, ⟨hd', ?_⟩, ?_⟩
          · simp only [hkind, hop, h2, h3]
            exact ⟨trivial, trivial⟩
          · rw [dstE_some h2]; simp only [act]; exact hk
      · rename_i t a x hop
        have hop : o.op = .store t a x := hop
        rw [ownS_strip] at h
        cases ho : ownSt esc o with
        | some s =>
          rw [ho] at h
          obtain ⟨hkind, hdet⟩ := stepOwn_det (P := P) (n := n) (i := i) (m := true) (ops := ops) hop ho h hg hk
          have hfalse : ((1 : Nat) == 3) = false := rfl
          have hfalse2 : ((1 : Nat) == 2) = false := rfl
          have hfalse5 : ((1 : Nat) == 5) = false := rfl
          simp only [hkind, hfalse, hfalse2, hfalse5, Bool.false_and, Bool.false_eq_true, if_false]
          exact hdet
        | none =>
        rw [ho] at h
        simp only at h
        split at h <;> try (cases h; done)
        rename_i T' g1 ob off g2 v h1 hT' ha hx
        split at h <;> try (cases h; done)
        rename_i cs hm
        simp only [Option.some.injEq, Prod.mk.injEq] at h
        obtain ⟨rfl, rfl⟩ := h
        have h1' := hgn h1
        have hkind : kindO esc true o = 2 := by simp [kindO, hop, ho, h1']
        have hfalse : ((2 : Nat) == 3) = false := rfl
        have hfalse5 : ((2 : Nat) == 5) = false := rfl
        simp only [hkind, hfalse, hfalse5, Bool.false_eq_true, if_false, beq_self_eq_true, Bool.and_self, if_true]
        refine ⟨fun r' M'' => r' = .tup [] ∧ M'' = updH st.M ob (.cells (splice cs off v.cells)), ⟨hd', ⟨_, _, rfl, rfl⟩, ?_⟩, ?_⟩
        · simp only [hop, h1', hT', ha, hx, hm]
          obtain ⟨k1, k2, k3, k4, k5, k6⟩ := hg
          exact ⟨trivial, k1, k2, k3, k4, k5, k6, by simp⟩
        · rintro r' M'' ⟨rfl, rfl⟩
          rw [withM_setD]; exact hk
      · rename_i t m k x hop
        have hop : o.op = .mapUpdate t m k x := hop
        split at h <;> try (cases h; done)
        rename_i kt et g1 ob g2 kv g3 v h1 hu hm hkv hx
        split at h <;> try (cases h; done)
        rename_i d kvs hd2 hob
        split at h <;> try (cases h; done)
        rename_i r hset
        simp only [Option.some.injEq, Prod.mk.injEq] at h
        obtain ⟨rfl, rfl⟩ := h
        have h1' := hgn h1
        have hkind : kindO esc true o = 3 := by simp [kindO, hop]
        simp only [hkind, beq_self_eq_true, if_true]
        unfold opg
        refine ⟨hd', ?_⟩
        simp only [h1']
        unfold opw
        simp only [hop, hu, hm, hkv, hx, hd2, hob, hset]
        obtain ⟨k1, k2, k3, k4, k5⟩ := hg
        exact ⟨k1, k2, k3, k4, k5, hk⟩
      · rename_i op n1 n2 n3 _
        cases hA : isA (stripO ops o).op with
        | false => rw [hA] at h; cases h
        | true =>
          cases hsf : safeB st.fr bad (stripO ops o).op with
          | false => rw [hA, hsf] at h; cases h
          | true =>
            rw [hA, hsf] at h
            simp only at h
            have hA' : isA o.op = true := hA
            have hkind : kindO esc true o = 0 := by
              have hcv' : isCallV o.op = false := hcv
              unfold kindO
              split
              · rename_i hx; exact absurd hx (n1 _ _)
              · rename_i hx; exact absurd hx (n2 _)
              · rename_i hx; rw [hx] at hcv'; cases hcv'
              · rename_i hx; exact absurd hx (n3 _ _ _)
              · rename_i hx; rw [hx] at hA'; cases hA'
              · simp [hA']
            simp only [hkind]
            have hev : ∀ r, evalQ P H st.fr o.op = some r → evalQ P (if true && blindB esc true ops i then emptyH else st.M) st.fr o.op = some r := by
              intro r hr
              rcases hH with rfl | ⟨rfl, hb⟩
              · split
                · exact hr
                · exact evalQ_blind hr
              · rw [hb]; exact hr
            have key : ∀ c u need, guardS st.fr (stripO ops o).g = some c → evalQ P H st.fr o.op = some (need, u) → (c = true → need) → K (setD st o.dst (wrapS (stripO ops o).g c u)) → ∃ v b, Det P n esc ops true i o st v b ∧ K (act st (dstE esc o) v b) := by
              intro c u need hgc he hn hkk
              refine ⟨wrapS (stripO ops o).g c u, false, ⟨hd', ?_⟩, ?_⟩
              · simp only [hkind, guardC_strip hs hgc, hev _ he]
                exact ⟨hn, by rw [hbad]; exact safe_of hsf, by rw [wrapG_strip (ops := ops)], trivial⟩
              · rw [dstE_of0 hkind]
                cases hdst : o.dst with
                | none => rw [hdst] at hkk; exact hkk
                | some d => rw [hdst] at hkk; exact hkk
            have hfalse : ((0 : Nat) == 3) = false := rfl
            have hfalse2 : ((0 : Nat) == 2) = false := rfl
            have hfalse5 : ((0 : Nat) == 5) = false := rfl
            simp only [hfalse, hfalse2, hfalse5, Bool.false_and, Bool.false_eq_true, if_false]
            have hop0 : (stripO ops o).op = o.op := rfl
            rw [hop0] at h
            split at h
            · rename_i hgn'
              split at h <;> try (cases h; done)
              rename_i g' v he
              simp only [Option.some.injEq, Prod.mk.injEq] at h
              obtain ⟨rfl, rfl⟩ := h
              exact key true v g' (by rw [hgn']; rfl) he (fun _ => hg) (by rw [hgn']; exact hk)
            · rename_i s want hgn'
              split at h <;> try (cases h; done)
              rename_i c hgc
              split at h <;> try (cases h; done)
              rename_i g' v he
              simp only [Option.some.injEq, Prod.mk.injEq] at h
              obtain ⟨rfl, rfl⟩ := h
              exact key c v g' (by rw [hgn']; exact hgc) he hg (by rw [hgn']; exact hk)

theorem runM_sound (hT : TabOk P T) (hW : WTabOk P W) (hok : guardsOk ops = true) {bad nb : List Nat} (hbad : badD esc ops 0 = bad) (hnb : (nb.all fun i => !blindB esc true ops i) = true) : ∀ (f k : Nat) (st : St) {g : Prop} {st' : St}, k + f = ops.size → runM T W P n esc bad nb k ((ops.toList.drop k).map (stripO ops)) st = some (g, st') → g → K st' →
    seqT (opd P n esc ops true) K f k st
  | 0, k, st, g, st', hk, h, hg, hK => by
    have : ops.toList.drop k = [] := by apply List.drop_eq_nil_of_le; simp; omega
    rw [this] at h
    simp only [List.map_nil, runM, Option.some.injEq, Prod.mk.injEq] at h
    obtain ⟨rfl, rfl⟩ := h
    exact hK
  | f + 1, k, st, g, st', hk, h, hg, hK => by
    have hlt : k < ops.toList.length := by simp; omega
    rw [List.drop_eq_getElem_cons hlt, List.map_cons] at h
    simp only [runM] at h
    split at h <;> try (cases h; done)
    rename_i g1 st1 h1
    split at h <;> try (cases h; done)
    rename_i g2 st2 h2
    simp only [Option.some.injEq, Prod.mk.injEq] at h
    obtain ⟨rfl, rfl⟩ := h
    have ho := List.all_eq_true.1 hok ops.toList[k] (List.getElem_mem hlt)
    simp only [seqT]
    refine stepM_sound hT hW (o := ops.toList[k]) (by simp) (fun s want e => ?_) hbad ?_ h1 hg.1 (runM_sound hT hW hok hbad hnb f (k + 1) st1 (by omega) h2 hg.2 hK)
    · rw [e] at ho
      simpa using ho
    · cases hm : memN k nb with
      | false => left; rfl
      | true =>
        right
        refine ⟨rfl, ?_⟩
        have hin : k ∈ nb := by
          clear h1 h2 hnb
          induction nb with
          | nil => cases hm
          | cons a l ih =>
            unfold memN at hm
            split at hm
            · simp_all
            · exact List.mem_cons_of_mem _ (ih hm)
        have := List.all_eq_true.1 hnb k hin
        simpa using this

theorem wps_drawM (T : Tab) (W : WTab) (nb : List Nat) (hT : TabOk P T) (hW : WTabOk P W) (hok : guardsOk ops = true) (hl : ops.toList.map (stripO ops) = l) (hnb : (nb.all fun i => !blindB esc true ops i) = true)
    (hlex : lexF ops (indB esc ops true) ops.size 0 = true)
    {g : Prop} (h : runM T W P n esc (slots esc l) nb 0 l st = some (g, st')) (hgk : g ∧ Q .normal st') : wps P n esc (.draw ops l) Q st := by
  subst hl
  exact fun _ => ⟨true, hlex, runM_sound hT hW hok (slots_bad ops) hnb ops.size 0 st (by simp) h hgk.1 hgk.2⟩
end

/-- Slots that are marked. -/
def escL (l : List Nat) : Nat → Bool := fun d => memN d l

def noW : WTab := fun _ _ _ => none
theorem noW_ok {P : Program} : WTabOk P noW := fun _ _ _ _ _ _ h => by cases h
end Go.Eng

/- The engine, part 20: what was made on the way is forgotten, or handed back to be read only. -/
namespace Go.Eng
set_option linter.unusedSimpArgs false
set_option linter.unusedVariables false

/-! ### Where a value leads -/
mutual
def refsOk (M : Heap) : V → Prop
  | .ptr o _ => M o ≠ none
  | .sli o _ _ _ => M o ≠ none
  | .map o => M o ≠ none
  | .agg cs => refsOks M cs
  | .tup cs => refsOks M cs
  | .lst es => refsOkss M es
  | .eref cs _ => refsOks M cs
  | .fn _ a c => refsOks M a ∧ refsOks M c
  | .iface _ v => refsOk M v
  | _ => True
def refsOks (M : Heap) : List V → Prop
  | [] => True
  | v :: vs => refsOk M v ∧ refsOks M vs
def refsOkss (M : Heap) : List (List V) → Prop
  | [] => True
  | e :: es => refsOks M e ∧ refsOkss M es
end

theorem refsOkss_of {M : Heap} : ∀ {es : List (List V)}, (∀ e ∈ es, refsOks M e) → refsOkss M es
  | [], _ => trivial
  | e :: es, h => ⟨h e (by simp), refsOkss_of (fun e' h' => h e' (by simp [h']))⟩
theorem refsOks_of {M : Heap} : ∀ {cs : List V}, (∀ c ∈ cs, refsOk M c) → refsOks M cs
  | [], _ => trivial
  | c :: cs, h => ⟨h c (by simp), refsOks_of (fun e' h' => h e' (by simp [h']))⟩
theorem refsOks_mem {M : Heap} : ∀ {cs : List V}, refsOks M cs → ∀ c ∈ cs, refsOk M c
  | [], _, c, hc => by cases hc
  | v :: cs, h, c, hc => by
    rcases List.mem_cons.1 hc with rfl | hc
    · exact h.1
    · exact refsOks_mem h.2 c hc
theorem refsOkss_mem {M : Heap} : ∀ {es : List (List V)}, refsOkss M es → ∀ e ∈ es, refsOks M e
  | [], _, e, he => by cases he
  | v :: es, h, e, he => by
    rcases List.mem_cons.1 he with rfl | he
    · exact h.1
    · exact refsOkss_mem h.2 e he
theorem refsOks_flat {M : Heap} : ∀ {es : List (List V)}, refsOkss M es → refsOks M es.flatten
  | [], _ => trivial
  | e :: es, h => by
    rw [List.flatten_cons]
    refine refsOks_of fun c hc => ?_
    rcases List.mem_append.1 hc with h1 | h1
    · exact refsOks_mem h.1 c h1
    · exact refsOks_mem (refsOks_flat h.2) c h1

/-- Another view of the same memory: fewer names. -/
structure Fewer (E' E'' : Env) (M1 : Heap) : Prop where
  ob : ∀ o, M1 o ≠ none → E''.ob o = E'.ob o
  own : ∀ b, E''.own b → E'.own b

mutual
theorem R.fewer {E' E'' : Env} {M1 : Heap} {w : World} (h : Fewer E' E'' M1) : ∀ (v : V) (x : Value), refsOk M1 v → R E' w v x → R E'' w v x
  | .any, x, _, hr => by simp [R]
  | .bool _, x, _, hr => by simpa only [R] using hr
  | .int _ _, x, _, hr => by simpa only [R] using hr
  | .str _, x, _, hr => by simpa only [R] using hr
  | .agg cs, x, hv, hr => by
    simp only [R] at hr ⊢
    obtain ⟨xs, rfl, hl⟩ := hr
    exact ⟨xs, rfl, RL.fewer h cs _ (by simpa only [refsOk] using hv) hl⟩
  | .tup cs, x, hv, hr => by
    simp only [R] at hr ⊢
    obtain ⟨xs, rfl, hl⟩ := hr
    exact ⟨xs, rfl, RL.fewer h cs _ (by simpa only [refsOk] using hv) hl⟩
  | .lst es, x, hv, hr => by
    simp only [R] at hr ⊢
    obtain ⟨a, cap, rfl, h1, h2, h3⟩ := hr
    refine ⟨a, cap, rfl, h1, h2, ?_⟩
    rcases h3 with h3 | ⟨b, off, sz, rfl, hb, hn, he⟩
    · exact .inl h3
    · exact .inr ⟨b, off, sz, rfl, hb, fun ho => hn (h.own b ho), RE.fewer h es b off sz (by simpa only [refsOk] using hv) he⟩
  | .nilp, x, _, hr => by simpa only [R] using hr
  | .ptr o off, x, hv, hr => by
    simp only [R] at hr ⊢
    obtain ⟨b, hb, rfl⟩ := hr
    exact ⟨b, by rw [h.ob o (by simpa only [refsOk] using hv)]; exact hb, rfl⟩
  | .eref cs off, x, hv, hr => by
    simp only [R] at hr ⊢
    obtain ⟨b, base, rfl, hb, hn, hm⟩ := hr
    exact ⟨b, base, rfl, hb, fun ho => hn (h.own b ho), RM.fewer h cs b base (by simpa only [refsOk] using hv) hm⟩
  | .lref _ _ _, x, _, hr => by simp [R] at hr
  | .box _ _, x, _, hr => by simp [R] at hr
  | .itr _ _ _, x, _, hr => by simp [R] at hr
  | .nilm, x, _, hr => by simpa only [R] using hr
  | .map o, x, hv, hr => by
    simp only [R] at hr ⊢
    obtain ⟨b, hb, rfl⟩ := hr
    exact ⟨b, by rw [h.ob o (by simpa only [refsOk] using hv)]; exact hb, rfl⟩
  | .fn f a c, x, hv, hr => by
    simp only [R] at hr ⊢
    simp only [refsOk] at hv
    obtain ⟨xs, ys, rfl, h1, h2⟩ := hr
    exact ⟨xs, ys, rfl, RL.fewer h a _ hv.1 h1, RL.fewer h c _ hv.2 h2⟩
  | .nilf, x, _, hr => by simpa only [R] using hr
  | .iface t v, x, hv, hr => by
    simp only [R] at hr ⊢
    obtain ⟨y, rfl, hy⟩ := hr
    exact ⟨y, rfl, R.fewer h v y (by simpa only [refsOk] using hv) hy⟩
  | .nili, x, _, hr => by simpa only [R] using hr
  | .when _ _, x, _, hr => by simp [R] at hr
  | .nils, x, _, hr => by simpa only [R] using hr
  | .emp, x, _, hr => by simpa only [R] using hr
  | .sli o off len cap, x, hv, hr => by
    simp only [R] at hr ⊢
    obtain ⟨b, hb, rfl, h1⟩ := hr
    exact ⟨b, by rw [h.ob o (by simpa only [refsOk] using hv)]; exact hb, rfl, h1⟩
  | .lrs _ _ _ _, x, _, hr => by simp [R] at hr
theorem RL.fewer {E' E'' : Env} {M1 : Heap} {w : World} (h : Fewer E' E'' M1) : ∀ (vs : List V) (xs : List Value), refsOks M1 vs → RL E' w vs xs → RL E'' w vs xs
  | [], xs, _, hr => by simpa only [RL] using hr
  | v :: vs, xs, hv, hr => by
    simp only [RL] at hr ⊢
    obtain ⟨y, ys, rfl, h1, h2⟩ := hr
    exact ⟨y, ys, rfl, R.fewer h v y hv.1 h1, RL.fewer h vs ys hv.2 h2⟩
theorem RM.fewer {E' E'' : Env} {M1 : Heap} {w : World} (h : Fewer E' E'' M1) : ∀ (vs : List V) (b off : Nat), refsOks M1 vs → RM E' w vs b off → RM E'' w vs b off
  | [], b, off, _, hr => by simp [RM]
  | v :: vs, b, off, hv, hr => by
    simp only [RM] at hr ⊢
    obtain ⟨⟨y, hy, h1⟩, h2⟩ := hr
    exact ⟨⟨y, hy, R.fewer h v y hv.1 h1⟩, RM.fewer h vs b _ hv.2 h2⟩
theorem RE.fewer {E' E'' : Env} {M1 : Heap} {w : World} (h : Fewer E' E'' M1) : ∀ (es : List (List V)) (b off sz : Nat), refsOkss M1 es → RE E' w es b off sz → RE E'' w es b off sz
  | [], b, off, sz, _, hr => by simp [RE]
  | e :: es, b, off, sz, hv, hr => by
    simp only [RE] at hr ⊢
    obtain ⟨h0, h1, h2⟩ := hr
    exact ⟨h0, RM.fewer h e b off hv.1 h1, RE.fewer h es b _ sz hv.2 h2⟩
end

/-! ### What was there ahead -/
structure Back (E E' E'' : Env) : Prop where
  obm : ∀ o b, E.ob o = some b → E'.ob o = some b
  ob : ∀ o b, E.ob o = some b → E''.ob o = some b
  own : ∀ b, E''.own b → E'.own b

mutual
theorem R.back {E E' E'' : Env} {w w' : World} (h : Back E E' E'') : ∀ (v : V) (x x' : Value), R E w v x → R E' w' v x' → R E'' w' v x'
  | .any, x, x', _, hr => by simp [R]
  | .bool _, x, x', _, hr => by simpa only [R] using hr
  | .int _ _, x, x', _, hr => by simpa only [R] using hr
  | .str _, x, x', _, hr => by simpa only [R] using hr
  | .agg cs, x, x', h0, hr => by
    simp only [R] at hr h0 ⊢
    obtain ⟨xs, rfl, hl⟩ := hr
    obtain ⟨ys, rfl, hl0⟩ := h0
    exact ⟨xs, rfl, RL.back h cs _ _ hl0 hl⟩
  | .tup cs, x, x', h0, hr => by
    simp only [R] at hr h0 ⊢
    obtain ⟨xs, rfl, hl⟩ := hr
    obtain ⟨ys, rfl, hl0⟩ := h0
    exact ⟨xs, rfl, RL.back h cs _ _ hl0 hl⟩
  | .lst es, x, x', h0, hr => by
    simp only [R] at hr h0 ⊢
    obtain ⟨a, cap, rfl, h1, h2, h3⟩ := hr
    obtain ⟨a0, cap0, rfl, _, _, h03⟩ := h0
    refine ⟨a, cap, rfl, h1, h2, ?_⟩
    rcases h3 with h3 | ⟨b, off, sz, rfl, hb, hn, he⟩
    · exact .inl h3
    · rcases h03 with h03 | ⟨b0, off0, sz0, _, _, _, he0⟩
      · exact .inl h03
      · exact .inr ⟨b, off, sz, rfl, hb, fun ho => hn (h.own b ho), RE.back h es b0 off0 sz0 b off sz he0 he⟩
  | .nilp, x, x', _, hr => by simpa only [R] using hr
  | .ptr o off, x, x', h0, hr => by
    simp only [R] at hr h0 ⊢
    obtain ⟨b, hb, rfl⟩ := hr
    obtain ⟨b0, hb0, _⟩ := h0
    have := h.obm o b0 hb0
    rw [hb] at this; cases this
    exact ⟨b, h.ob o b hb0, rfl⟩
  | .eref cs off, x, x', h0, hr => by
    simp only [R] at hr h0 ⊢
    obtain ⟨b, base, rfl, hb, hn, hm⟩ := hr
    obtain ⟨b0, base0, _, _, _, hm0⟩ := h0
    exact ⟨b, base, rfl, hb, fun ho => hn (h.own b ho), RM.back h cs b0 base0 b base hm0 hm⟩
  | .lref _ _ _, x, x', _, hr => by simp [R] at hr
  | .box _ _, x, x', _, hr => by simp [R] at hr
  | .itr _ _ _, x, x', _, hr => by simp [R] at hr
  | .nilm, x, x', _, hr => by simpa only [R] using hr
  | .map o, x, x', h0, hr => by
    simp only [R] at hr h0 ⊢
    obtain ⟨b, hb, rfl⟩ := hr
    obtain ⟨b0, hb0, _⟩ := h0
    have := h.obm o b0 hb0
    rw [hb] at this; cases this
    exact ⟨b, h.ob o b hb0, rfl⟩
  | .fn f a c, x, x', h0, hr => by
    simp only [R] at hr h0 ⊢
    obtain ⟨xs, ys, rfl, h1, h2⟩ := hr
    obtain ⟨xs0, ys0, _, h01, h02⟩ := h0
    exact ⟨xs, ys, rfl, RL.back h a _ _ h01 h1, RL.back h c _ _ h02 h2⟩
  | .nilf, x, x', _, hr => by simpa only [R] using hr
  | .iface t v, x, x', h0, hr => by
    simp only [R] at hr h0 ⊢
    obtain ⟨y, rfl, hy⟩ := hr
    obtain ⟨y0, _, hy0⟩ := h0
    exact ⟨y, rfl, R.back h v y0 y hy0 hy⟩
  | .nili, x, x', _, hr => by simpa only [R] using hr
  | .when _ _, x, x', _, hr => by simp [R] at hr
  | .nils, x, x', _, hr => by simpa only [R] using hr
  | .emp, x, x', _, hr => by simpa only [R] using hr
  | .sli o off len cap, x, x', h0, hr => by
    simp only [R] at hr h0 ⊢
    obtain ⟨b, hb, rfl, h1⟩ := hr
    obtain ⟨b0, hb0, _⟩ := h0
    have := h.obm o b0 hb0
    rw [hb] at this; cases this
    exact ⟨b, h.ob o b hb0, rfl, h1⟩
  | .lrs _ _ _ _, x, x', _, hr => by simp [R] at hr
theorem RL.back {E E' E'' : Env} {w w' : World} (h : Back E E' E'') : ∀ (vs : List V) (xs xs' : List Value), RL E w vs xs → RL E' w' vs xs' → RL E'' w' vs xs'
  | [], xs, xs', _, hr => by simpa only [RL] using hr
  | v :: vs, xs, xs', h0, hr => by
    simp only [RL] at hr h0 ⊢
    obtain ⟨y, ys, rfl, h1, h2⟩ := hr
    obtain ⟨y0, ys0, rfl, h01, h02⟩ := h0
    exact ⟨y, ys, rfl, R.back h v y0 y h01 h1, RL.back h vs ys0 ys h02 h2⟩
theorem RM.back {E E' E'' : Env} {w w' : World} (h : Back E E' E'') : ∀ (vs : List V) (b off b' off' : Nat), RM E w vs b off → RM E' w' vs b' off' → RM E'' w' vs b' off'
  | [], b, off, b', off', _, hr => by simp [RM]
  | v :: vs, b, off, b', off', h0, hr => by
    simp only [RM] at hr h0 ⊢
    obtain ⟨⟨y, hy, h1⟩, h2⟩ := hr
    obtain ⟨⟨y0, _, h01⟩, h02⟩ := h0
    exact ⟨⟨y, hy, R.back h v y0 y h01 h1⟩, RM.back h vs b _ b' _ h02 h2⟩
theorem RE.back {E E' E'' : Env} {w w' : World} (h : Back E E' E'') : ∀ (es : List (List V)) (b off sz b' off' sz' : Nat), RE E w es b off sz → RE E' w' es b' off' sz' → RE E'' w' es b' off' sz'
  | [], b, off, sz, b', off', sz', _, hr => by simp [RE]
  | e :: es, b, off, sz, b', off', sz', h0, hr => by
    simp only [RE] at hr h0 ⊢
    obtain ⟨k0, h1, h2⟩ := hr
    obtain ⟨_, h01, h02⟩ := h0
    exact ⟨k0, RM.back h e b off b' off' h01 h1, RE.back h es b _ sz b' _ sz' h02 h2⟩
end

theorem RKV.back {E E' E'' : Env} {w w' : World} (h : Back E E' E'') : ∀ {kvs : List (V × V)} {es es' : List MapEntry}, RKV E w kvs es → RKV E' w' kvs es' → RKV E'' w' kvs es'
  | [], es, es', _, hr => by simpa only [RKV] using hr
  | (k, v) :: kvs, es, es', h0, hr => by
    simp only [RKV] at hr h0 ⊢
    obtain ⟨e, r, rfl, h1, h2, h3⟩ := hr
    obtain ⟨e0, r0, rfl, h01, h02, h03⟩ := h0
    exact ⟨e, r, rfl, R.back h k _ _ h01 h1, R.back h v _ _ h02 h2, RKV.back h h03 h3⟩

theorem objAt.back {E E' E'' : Env} {w w' : World} (h : Back E E' E'') {ho : HObj} {b b' : Nat} (h0 : objAt E w ho b) (hr : objAt E' w' ho b') : objAt E'' w' ho b' := by
  cases ho with
  | cells cs =>
    obtain ⟨arr, ty, h1, h2⟩ := hr
    obtain ⟨arr0, ty0, _, h02⟩ := h0
    exact ⟨arr, ty, h1, RL.back h _ _ _ h02 h2⟩
  | map kvs =>
    obtain ⟨es, clock, h1, h2, h3⟩ := hr
    obtain ⟨es0, clock0, _, h02, _⟩ := h0
    exact ⟨es, clock, h1, RKV.back h h02 h2, h3⟩

theorem RM_of_cells {E : Env} {w : World} : ∀ {vs : List V} {xs : List Value} {b off : Nat}, RL E w vs xs → (∀ j x, xs[j]? = some x → w.cell? ⟨b, off + j, none⟩ = some x) → RM E w vs b off
  | [], xs, b, off, _, _ => by simp [RM]
  | v :: vs, xs, b, off, h, k => by
    simp only [RL] at h
    obtain ⟨y, ys, rfl, h1, h2⟩ := h
    simp only [RM]
    refine ⟨⟨y, by simpa using k 0 y rfl, h1⟩, RM_of_cells h2 fun j x hj => ?_⟩
    have := k (j + 1) x (by simpa using hj)
    rwa [show off + 1 + j = off + (j + 1) by omega]

/-! ### Frozen -/
mutual
/-- A value that comes out, and what it is taken for: its own slices are read only from now on. -/
inductive Frz (M' M1 : Heap) : V → V → Prop
  | ref (v : V) : refsOk M1 v → Frz M' M1 v v
  | own (sz : Nat) (v : V) (es : List (List V)) : Own M' sz v es → (∀ o, v.obj = some o → M1 o = none) → refsOkss M1 es → Frz M' M1 v (.lst es)
  | agg (cs cs' : List V) : Frzs M' M1 cs cs' → Frz M' M1 (.agg cs) (.agg cs')
  | tup (cs cs' : List V) : Frzs M' M1 cs cs' → Frz M' M1 (.tup cs) (.tup cs')
inductive Frzs (M' M1 : Heap) : List V → List V → Prop
  | nil : Frzs M' M1 [] []
  | cons (v v' : V) (vs vs' : List V) : Frz M' M1 v v' → Frzs M' M1 vs vs' → Frzs M' M1 (v :: vs) (v' :: vs')
end

def FrzO (M' M1 : Heap) : HObj → HObj → Prop
  | .cells cs, .cells cs' => Frzs M' M1 cs cs'
  | .map kvs, .map kvs' => kvs = kvs' ∧ ∀ kv ∈ kvs, refsOk M1 kv.1 ∧ refsOk M1 kv.2
  | _, _ => False

section
variable {P : Program} {E E' E'' : Env} {w w' : World} {M M' M1 : Heap}

theorem own_lst (hf : Fewer E' E'' M1) (hm : RH E' w' M') (hno : ∀ o b, M1 o = none → E'.ob o = some b → ¬ E''.own b) {sz : Nat} {v : V} {es : List (List V)} {x : Value} (ho : Own M' sz v es) (h1 : ∀ o, v.obj = some o → M1 o = none) (h2 : refsOkss M1 es) (hr : R E' w' v x) : R E'' w' (.lst es) x := by
  obtain ⟨o1, o2⟩ := ho
  rcases o2 with ⟨rfl, rfl⟩ | ⟨rfl, rfl⟩ | ⟨o, cap, cs, rfl, hM, hle, hcl, htk⟩
  · simp only [R] at hr; subst hr
    unfold R
    exact ⟨none, 0, rfl, Nat.le_refl _, Nat.zero_le _, .inl rfl⟩
  · simp only [R] at hr; obtain ⟨a, rfl⟩ := hr
    unfold R
    exact ⟨a, 0, rfl, Nat.le_refl _, Nat.zero_le _, .inl rfl⟩
  · simp only [R] at hr
    obtain ⟨b, hb, rfl, _, hmax⟩ := hr
    obtain ⟨b', hb', arr, ty, hh, hcs⟩ := hm o _ hM
    rw [hb] at hb'; cases hb'
    simp only [R]
    refine ⟨some ⟨b, 0, none⟩, cap, rfl, hle, hmax, .inr ⟨b, 0, sz, rfl, lt_of_heap hh, hno o b (h1 o rfl) hb, RE.of_flat o1 ?_⟩⟩
    have h3 : RL E' w' es.flatten (arr.toList.take (es.length * sz)) := by rw [← htk]; exact hcs.take _
    have h4 := RL.fewer hf _ _ (refsOks_flat h2) h3
    refine RM_of_cells (off := 0) h4 (fun j u hj => ?_)
    have hj' : arr[j]? = some u := by
      rw [List.getElem?_take] at hj
      split at hj
      · simpa using hj
      · cases hj
    simp [World.cell?, hh, hj']

mutual
theorem Frz.sound (hf : Fewer E' E'' M1) (hm : RH E' w' M') (hno : ∀ o b, M1 o = none → E'.ob o = some b → ¬ E''.own b) : ∀ {v v' : V}, Frz M' M1 v v' → ∀ {x : Value}, R E' w' v x → R E'' w' v' x
  | _, _, .ref v h, x, hr => R.fewer hf v x h hr
  | _, _, .own sz v es h1 h2 h3, x, hr => own_lst hf hm hno h1 h2 h3 hr
  | _, _, .agg cs cs' h, x, hr => by
    simp only [R] at hr ⊢
    obtain ⟨xs, rfl, hl⟩ := hr
    exact ⟨xs, rfl, Frzs.sound hf hm hno h hl⟩
  | _, _, .tup cs cs' h, x, hr => by
    simp only [R] at hr ⊢
    obtain ⟨xs, rfl, hl⟩ := hr
    exact ⟨xs, rfl, Frzs.sound hf hm hno h hl⟩
theorem Frzs.sound (hf : Fewer E' E'' M1) (hm : RH E' w' M') (hno : ∀ o b, M1 o = none → E'.ob o = some b → ¬ E''.own b) : ∀ {vs vs' : List V}, Frzs M' M1 vs vs' → ∀ {xs : List Value}, RL E' w' vs xs → RL E'' w' vs' xs
  | _, _, .nil, xs, hr => by simpa only [RL] using hr
  | _, _, .cons v v' vs vs' h1 h2, xs, hr => by
    simp only [RL] at hr ⊢
    obtain ⟨y, ys, rfl, k1, k2⟩ := hr
    exact ⟨y, ys, rfl, Frz.sound hf hm hno h1 k1, Frzs.sound hf hm hno h2 k2⟩
end

theorem RKV.fewer (hf : Fewer E' E'' M1) : ∀ {kvs : List (V × V)} {es : List MapEntry}, (∀ kv ∈ kvs, refsOk M1 kv.1 ∧ refsOk M1 kv.2) → RKV E' w' kvs es → RKV E'' w' kvs es
  | [], es, _, hr => by simpa only [RKV] using hr
  | (k, v) :: kvs, es, hk, hr => by
    simp only [RKV] at hr ⊢
    obtain ⟨e, r, rfl, h1, h2, h3⟩ := hr
    exact ⟨e, r, rfl, R.fewer hf k _ (hk (k, v) (by simp)).1 h1, R.fewer hf v _ (hk (k, v) (by simp)).2 h2, RKV.fewer hf (fun kv h => hk kv (by simp [h])) h3⟩

/-- What comes out is taken for less: new objects that nobody needs are dropped, own slices are frozen. -/
theorem Spec.trim {f : FuncId} {args : List V} {Post' Post : V → Heap → Prop} (h : Spec P f args M Post')
    (hp : ∀ r' M', Post' r' M' → ∃ r M1, Post r M1 ∧ Frz M' M1 r' r ∧ (∀ o, M o ≠ none → M1 o ≠ none) ∧ ∀ o x, M1 o = some x → ∃ x', M' o = some x' ∧ (M o = some x ∧ x' = x ∨ FrzO M' M1 x' x)) : Spec P f args M Post := by
  refine ⟨h.1, fun E w xs h1 h2 h3 h4 h5 => (h.2 E w xs h1 h2 h3 h4 h5).mono ?_⟩
  rintro e w' ⟨x, r', M', E', rfl, k1, k2, k3, k4, k5⟩
  obtain ⟨r, M1, p1, p2, p3, p4⟩ := hp r' M' k1
  let E'' : Env := { ob := fun o => if (M1 o).isSome then E'.ob o else none, bx := E'.bx, ex := E'.ex }
  have hob : ∀ o b, E''.ob o = some b → M1 o ≠ none ∧ E'.ob o = some b := by
    intro o b hb
    simp only [E''] at hb
    split at hb
    · rename_i hs; exact ⟨(fun e => by rw [e] at hs; cases hs), hb⟩
    · cases hb
  have hob' : ∀ o, M1 o ≠ none → E''.ob o = E'.ob o := by
    intro o ho
    simp only [E'']
    rw [if_pos (by cases hm : M1 o with | none => exact absurd hm ho | some _ => rfl)]
  have hown : ∀ b, E''.own b → E'.own b := by
    rintro b (⟨o, ho⟩ | hb | hb)
    · exact .inl ⟨o, (hob o b ho).2⟩
    · exact .inr (.inl hb)
    · exact .inr (.inr hb)
  have hf : Fewer E' E'' M1 := ⟨hob', hown⟩
  have hE : ∀ o b, E.ob o = some b → M1 o ≠ none := fun o b hb => p3 o (fun e => by rw [h5 o e] at hb; cases hb)
  have hbk : Back E E' E'' := ⟨fun o b hb => k4.obm o b hb, fun o b hb => by rw [hob' o (hE o b hb)]; exact k4.obm o b hb, hown⟩
  have hno : ∀ o b, M1 o = none → E'.ob o = some b → ¬ E''.own b := by
    intro o b hn hb hw
    have hge : w.heap.size ≤ b := by
      rcases Nat.lt_or_ge b w.heap.size with hlt | hge
      · exact absurd hn (hE o b (k4.obn o b hb hlt))
      · exact hge
    rcases hw with ⟨o', ho'⟩ | ⟨s, g, hs⟩ | hx
    · obtain ⟨q1, q2⟩ := hob o' b ho'
      have := k4.obinj o o' b hb q2
      subst this
      exact q1 hn
    · exact k4.obbx o s g b hb hs
    · have hx' : E.ex b := by rw [← k4.ex]; exact hx
      have := k4.exlt b hx'
      omega
  refine ⟨x, r, M1, E'', rfl, p1, Frz.sound hf k3 hno p2 k2, ?_, ?_, ?_⟩
  · intro o y hy
    obtain ⟨y', q1, q2⟩ := p4 o y hy
    obtain ⟨b, hb, hob1⟩ := k3 o y' q1
    refine ⟨b, by rw [hob' o (by rw [hy]; simp)]; exact hb, ?_⟩
    rcases q2 with ⟨q2, rfl⟩ | q2
    · obtain ⟨b0, hb0, hob0⟩ := h4 o _ q2
      exact objAt.back hbk hob0 hob1
    · cases y' with
      | cells cs =>
        cases y with
        | cells cs' =>
          obtain ⟨arr, ty, a1, a2⟩ := hob1
          exact ⟨arr, ty, a1, Frzs.sound hf k3 hno q2 a2⟩
        | map _ => exact q2.elim
      | map kvs =>
        cases y with
        | cells _ => exact q2.elim
        | map kvs' =>
          obtain ⟨rfl, q2⟩ := q2
          obtain ⟨es, clock, a1, a2, a3⟩ := hob1
          exact ⟨es, clock, a1, RKV.fewer hf q2 a2, a3⟩
  · exact {
      size := k4.size
      obm := fun o b hb => by rw [hob' o (hE o b hb)]; exact k4.obm o b hb
      obn := fun o b hb hlt => k4.obn o b (hob o b hb).2 hlt
      bxn := k4.bxn
      ex := k4.ex
      exlt := k4.exlt
      keep := k4.keep
      os := k4.os
      tape := k4.tape
      output := k4.output
      oblt := fun o b hb => k4.oblt o b (hob o b hb).2
      bxlt := k4.bxlt
      obinj := fun o o' b hb hb' => k4.obinj o o' b (hob o b hb).2 (hob o' b hb').2
      bxinj := k4.bxinj
      obbx := fun o s g b hb hs => k4.obbx o s g b (hob o b hb).2 hs
      fin := by
        obtain ⟨N, hN⟩ := k4.fin
        refine ⟨N, fun o ho => ?_⟩
        simp only [E'']
        split
        · exact hN o ho
        · rfl }
  · intro o ho
    simp only [E'']
    rw [ho]
    rfl

/-- What was made on the way is forgotten. -/
theorem Spec.forget {f : FuncId} {args : List V} {r : V} (h : Spec P f args M fun r' M' => r' = r ∧ ∀ o x, M o = some x → M' o = some x) (hr : refsOk M r) : Pure P f args M r :=
  Spec.trim h fun r' M' ⟨e, hk⟩ => ⟨r, M, ⟨rfl, rfl⟩, by rw [e]; exact .ref r hr, fun o ho => ho, fun o x hx => ⟨x, hk o x hx, .inl ⟨hx, rfl⟩⟩⟩

/-- An own slice is handed back to be read. -/
theorem Spec.own {f : FuncId} {args : List V} {sz : Nat} {es : List (List V)} (h : Spec P f args M fun r' M' => Own M' sz r' es ∧ (∀ o, r'.obj = some o → M o = none) ∧ ∀ o x, M o = some x → M' o = some x) (hr : refsOkss M es) : Pure P f args M (.lst es) :=
  Spec.trim h fun r' M' ⟨h1, h2, hk⟩ => ⟨.lst es, M, ⟨rfl, rfl⟩, .own sz r' es h1 h2 hr, fun o ho => ho, fun o x hx => ⟨x, hk o x hx, .inl ⟨hx, rfl⟩⟩⟩

/-- Whatever comes out, frozen; the heap is as it was. -/
theorem Spec.frozen {f : FuncId} {args : List V} {r : V} (h : Spec P f args M fun r' M' => Frz M' M r' r ∧ ∀ o x, M o = some x → M' o = some x) : Pure P f args M r :=
  Spec.trim h fun r' M' ⟨h1, hk⟩ => ⟨r, M, ⟨rfl, rfl⟩, h1, fun o ho => ho, fun o x hx => ⟨x, hk o x hx, .inl ⟨hx, rfl⟩⟩⟩
end
end Go.Eng

/- The engine, part 21: rules for append and for slices that are built; loops that collect. -/
namespace Go.Eng
set_option linter.unusedSimpArgs false
set_option linter.unusedVariables false

/-- What append asks of an element type. -/
def ElemOk (P : Program) (e : TypeId) (sz bytes : Nat) : Prop :=
  ∃ T i z, ti P e = some T ∧ T.size = sz ∧ 0 < sz ∧ P.info? e = some i ∧ i.zero = some z ∧ z.cells.size = sz ∧ i.bytes = bytes ∧ P.cellsOf e = sz

def elemB (P : Program) (e : TypeId) (sz bytes : Nat) : Bool :=
  match ti P e, P.info? e with
  | some T, some i => match i.zero with
    | some z => T.size == sz && decide (0 < sz) && z.cells.size == sz && i.bytes == bytes && P.cellsOf e == sz
    | none => false
  | _, _ => false

theorem ElemOk.of {P : Program} {e : TypeId} {sz bytes : Nat} (h : elemB P e sz bytes = true) : ElemOk P e sz bytes := by
  unfold elemB at h
  split at h <;> try (cases h; done)
  rename_i T i h1 h2
  split at h <;> try (cases h; done)
  rename_i z h3
  simp only [Bool.and_eq_true, beq_iff_eq, decide_eq_true_eq] at h
  exact ⟨T, i, z, h1, h.1.1.1.1, h.1.1.1.2, h2, h3, h.1.1.2, h.1.2, h.2⟩

section
variable {P : Program} {n : Nat} {esc : Nat → Bool} {st : St} {l : List SO} {K : St → Prop}

/-- append, to a slice that was made here. -/
theorem oss_append {d : Option Nat} {s x : Operand} {t e : TypeId} {sz bytes : Nat} {g g' g'' : Prop} {sv xv : V} {xs es : List (List V)} (hd : dstLt n d = true)
    (hu : P.underlying t = some (.slice e)) (he : ElemOk P e sz bytes) (h1 : opv st.fr s = some (g, sv)) (hg : g) (h2 : opv st.fr x = some (g', xv)) (hg' : g') (hr : readSl st sz xv = some (g'', xs)) (hg'' : g'')
    (hown : Own st.M sz sv es) (hok : ∀ e ∈ xs, ∀ c ∈ e, cellOk c = true) (hlen : es.length + xs.length ≤ maxLen) (hby : (es.length + xs.length) * bytes ≤ 140737488355328)
    (hk : ∀ v' M', Own M' sz v' (es ++ xs) → (∀ k, v'.obj = some k → sv.obj = some k ∨ st.M k = none) → (∀ k, v'.obj ≠ some k → M' k = st.M k) → oss P n esc l K (setD { st with M := M' } d v')) :
    oss P n esc (⟨d, none, .call ⟨.builtin .append, #[s, x], #[t, t]⟩⟩ :: l) K st := by
  obtain ⟨T, i, z, e1, e2, e3, e4, e5, e6, e7, e8⟩ := he
  refine ⟨hd, ?_⟩
  show opw P esc _ _ st
  unfold opw
  simp only [SO.oper, hu, h1, h2, e1, e4]
  rw [e8, hr]
  simp only
  subst e2
  subst e7
  exact ⟨trivial, hg, hg', hg'', e3, ⟨z, e5, e6⟩, hok, es, hown, hlen, hby, hk⟩

/-- A slice that is built, to be read only. -/
theorem oss_build {d : Nat} {t e : TypeId} {ps : Array (Nat × Operand)} {len : Nat} {T : TI} {g : Prop} {es : List (List V)} {z : V} (hd : dstLt n (some d) = true)
    (hu : P.underlying t = some (.slice e)) (hT : ti P e = some T) (hp : partsV st.fr T.size 0 ps.toList = some (g, es)) (hg : g) (hpos : 0 < T.size) (hl : es.length = len) (h16 : len * T.size ≤ 16777216) (hz : zeroV P e = some z) (hzl : z.cells.length = T.size)
    (hesc : esc d = false) (hk : oss P n esc l K { st with fr := upd st.fr d (.lst es) }) : oss P n esc (⟨some d, none, .buildSlice t len ps⟩ :: l) K st := by
  refine ⟨hd, ?_⟩
  show opw P esc _ _ st
  unfold opw
  simp only [SO.oper, hu, hT, hp]
  refine ⟨hg, hpos, hl, h16, ⟨z, hz, hzl⟩, ?_⟩
  rw [hesc]
  exact hk
end

/-- The heap has what it had, and perhaps more; the object that is named apart. -/
def Keeps (M M' : Heap) : Prop := ∀ o x, M o = some x → M' o = some x

theorem Keeps.refl (M : Heap) : Keeps M M := fun _ _ h => h
theorem Keeps.trans {M M' M'' : Heap} (h : Keeps M M') (k : Keeps M' M'') : Keeps M M'' := fun o x ho => k o x (h o x ho)
/-- Growing a slice of one's own leaves alone whatever was there ahead of it. -/
theorem Keeps.own {M0 M M' : Heap} {sv v' : V} (h : Keeps M0 M) (hn : ∀ k, sv.obj = some k → M0 k = none) (h1 : ∀ k, v'.obj = some k → sv.obj = some k ∨ M k = none) (h2 : ∀ k, v'.obj ≠ some k → M' k = M k) :
    Keeps M0 M' ∧ ∀ k, v'.obj = some k → M0 k = none := by
  have hk : ∀ k, v'.obj = some k → M0 k = none := by
    intro k hv
    rcases h1 k hv with h3 | h3
    · exact hn k h3
    · cases hm : M0 k with
      | none => rfl
      | some x => rw [h k x hm] at h3; cases h3
  refine ⟨fun o x ho => ?_, hk⟩
  rw [h2 o (fun e => by rw [hk o e] at ho; cases ho)]
  exact h o x ho
theorem Own.nils (M : Heap) (sz : Nat) : Own M sz .nils [] := ⟨by simp, .inl ⟨rfl, rfl⟩⟩
end Go.Eng

/- The engine, part 22: regions that draw their order, make a variable on the heap, and write a map. -/
namespace Go.Eng
set_option linter.unusedSimpArgs false
set_option linter.unusedVariables false

/-- One operation; 'N': the name that a new variable on the heap gets. -/
def stepE (T : Tab) (P : Program) (n : Nat) (esc : Nat → Bool) (bad : List Nat) (N : Nat) (o : SO) (st : St) : Option (Prop × St) :=
  match dstLt n o.d with
  | false => none
  | true =>
    match o.op with
    | .box t x =>
      match o.g, o.d with
      | none, some d =>
        match esc d with
        | true => match opv st.fr x with
          | some (g, v) => some (g ∧ v.tag < 20 ∧ st.M N = none, ⟨upd st.fr d (.ptr N 0), updH st.M N (.cells v.cells), st.gen⟩)
          | none => none
        | false => stepD T P n esc bad st.M o st
      | _, _ => none
    | .mapUpdate t m k x =>
      match o.g, P.underlying t, opv st.fr m, opv st.fr k, opv st.fr x with
      | none, some (.map kt _), some (g, .map ob), some (g', kv), some (g'', v) =>
        match P.underlying kt, st.M ob with
        | some d, some (.map kvs) =>
          match setKV kv v kvs with
          | some r => some (g ∧ g' ∧ g'' ∧ keyKind d kv = true ∧ v.tag < 20, setD { st with M := updH st.M ob (.map r) } o.d (.tup []))
          | none => none
        | _, _ => none
      | _, _, _, _, _ => none
    | _ => stepD T P n esc bad st.M o st

def runE (T : Tab) (P : Program) (n : Nat) (esc : Nat → Bool) (bad : List Nat) (N : Nat) : List SO → St → Option (Prop × St)
  | [], st => some (True, st)
  | o :: l, st =>
    match stepE T P n esc bad N o st with
    | some (g, st') => match runE T P n esc bad N l st' with
      | some (g', st'') => some (g ∧ g', st'')
      | none => none
    | none => none

section
variable {P : Program} {T : Tab} {n : Nat} {esc : Nat → Bool} {Q : Ex → St → Prop} {st st' : St} {l : List SO} {K K' : St → Prop} {ops : Array Oper}

theorem stepE_sound (hT : TabOk P T) {i : Nat} {o : Oper} {bad : List Nat} {N : Nat} {g : Prop} (hi : ops[i]? = some o) (hs : ∀ s want, stripG ops o.guard = some (s, want) → s ≠ 1000000) (hbad : badD esc ops i = bad)
    (h : stepE T P n esc bad N (stripO ops o) st = some (g, st')) (hg : g) (hk : K st') : opd P n esc ops false i K st := by
  unfold stepE at h
  cases hd : dstLt n (stripO ops o).d with
  | false => rw [hd] at h; cases h
  | true =>
    rw [hd] at h
    have hd' : dstLt n o.dst = true := hd
    have hgn : (stripO ops o).g = none → o.guard = none := by
      intro h1
      cases hgd : o.guard with
      | none => rfl
      | some gd => obtain ⟨sw, hsw⟩ := stripG_some (ops := ops) gd; simp only [stripO, hgd, hsw] at h1; cases h1
    simp only at h
    split at h
    · rename_i t x hop
      have hop : o.op = .box t x := hop
      split at h <;> try (cases h; done)
      rename_i d h1 h2
      have h2 : o.dst = some d := h2
      split at h
      · rename_i he
        split at h <;> try (cases h; done)
        rename_i g' v h3
        simp only [Option.some.injEq, Prod.mk.injEq] at h
        obtain ⟨rfl, rfl⟩ := h
        have hkind : kindO esc false o = 5 := by simp only [kindO, hop, h2, hgn h1]; simp [he]
        unfold opd
        have e3 : ((5 : Nat) == 3) = false := rfl
        simp only [hi, hkind, e3, Bool.false_eq_true, if_false, beq_self_eq_true, if_true]
        refine ⟨hd', ?_⟩
        simp only [h2, hop, newC, h3]
        exact ⟨⟨hg.1, hg.2.1⟩, N, hg.2.2, hk⟩
      · exact stepD_sound hT hi hs hbad h hg hk
    · rename_i t m k x hop
      have hop : o.op = .mapUpdate t m k x := hop
      split at h <;> try (cases h; done)
      rename_i kt et g1 ob g2 kv g3 v h1 hu hm hkv hx
      split at h <;> try (cases h; done)
      rename_i d kvs hd2 hob
      split at h <;> try (cases h; done)
      rename_i r hset
      simp only [Option.some.injEq, Prod.mk.injEq] at h
      obtain ⟨rfl, rfl⟩ := h
      have h1' := hgn h1
      have hkind : kindO esc false o = 3 := by simp [kindO, hop]
      unfold opd
      simp only [hi, hkind, beq_self_eq_true, if_true]
      unfold opg
      refine ⟨hd', ?_⟩
      simp only [h1']
      unfold opw
      simp only [hop, hu, hm, hkv, hx, hd2, hob, hset]
      obtain ⟨k1, k2, k3, k4, k5⟩ := hg
      exact ⟨k1, k2, k3, k4, k5, hk⟩
    · exact stepD_sound hT hi hs hbad h hg hk

theorem runE_sound (hT : TabOk P T) (hok : guardsOk ops = true) {bad : List Nat} {N : Nat} (hbad : badD esc ops 0 = bad) : ∀ (f k : Nat) (st : St) {g : Prop} {st' : St}, k + f = ops.size → runE T P n esc bad N ((ops.toList.drop k).map (stripO ops)) st = some (g, st') → g → K st' →
    seqT (opd P n esc ops false) K f k st
  | 0, k, st, g, st', hk, h, hg, hK => by
    have : ops.toList.drop k = [] := by apply List.drop_eq_nil_of_le; simp; omega
    rw [this] at h
    simp only [List.map_nil, runE, Option.some.injEq, Prod.mk.injEq] at h
    obtain ⟨rfl, rfl⟩ := h
    exact hK
  | f + 1, k, st, g, st', hk, h, hg, hK => by
    have hlt : k < ops.toList.length := by simp; omega
    rw [List.drop_eq_getElem_cons hlt, List.map_cons] at h
    simp only [runE] at h
    cases h1 : stepE T P n esc bad N (stripO ops ops.toList[k]) st with
    | none => rw [h1] at h; cases h
    | some gs =>
      obtain ⟨g1, st1⟩ := gs
      rw [h1] at h
      simp only at h
      cases h2 : runE T P n esc bad N ((ops.toList.drop (k + 1)).map (stripO ops)) st1 with
      | none => rw [h2] at h; cases h
      | some gs =>
        obtain ⟨g2, st2⟩ := gs
        rw [h2] at h
        simp only [Option.some.injEq, Prod.mk.injEq] at h
        obtain ⟨rfl, rfl⟩ := h
        have ho := List.all_eq_true.1 hok ops.toList[k] (List.getElem_mem hlt)
        simp only [seqT]
        refine stepE_sound hT (o := ops.toList[k]) (by simp) (fun s want e => ?_) hbad h1 hg.1 (runE_sound hT hok hbad f (k + 1) st1 (by omega) h2 hg.2 hK)
        rw [e] at ho
        simpa using ho

theorem wps_drawE (T : Tab) (hT : TabOk P T) (hok : guardsOk ops = true) (hl : ops.toList.map (stripO ops) = l)
    (hlex : lexF ops (indB esc ops false) ops.size 0 = true)
    (h : ∀ N, st.M N = none → ∃ g st', runE T P n esc (slots esc l) N l st = some (g, st') ∧ g ∧ Q .normal st') : wps P n esc (.draw ops l) Q st := by
  subst hl
  rintro ⟨N, hN⟩
  obtain ⟨g, st', h1, h2, h3⟩ := h N hN
  exact ⟨false, hlex, runE_sound hT hok (slots_bad ops) ops.size 0 st (by simp) h1 h2 h3⟩
end
end Go.Eng

/- The engine, part 23: long regions, piece by piece; frames of which only some slots count. -/
namespace Go.Eng
set_option linter.unusedSimpArgs false
set_option linter.unusedVariables false

section
variable {P : Program} {T : Tab} {n : Nat} {esc : Nat → Bool} {Q : Ex → St → Prop} {st st' : St} {l : List SO} {K K' : St → Prop} {ops : Array Oper} {bad : List Nat}

/-- A region that draws its order, run in the order of the text. -/
def drawn (T : Tab) (P : Program) (n : Nat) (esc : Nat → Bool) (bad : List Nat) (l : List SO) (K : St → Prop) (st : St) : Prop :=
  ∃ g st', runD T P n esc bad l st = some (g, st') ∧ g ∧ K st'

theorem runD_append : ∀ (l1 l2 : List SO) (st : St), runD T P n esc bad (l1 ++ l2) st = match runD T P n esc bad l1 st with
    | some (g, st1) => match runD T P n esc bad l2 st1 with
      | some (g', st2) => some (g ∧ g', st2)
      | none => none
    | none => none
  | [], l2, st => by
    simp only [List.nil_append, runD]
    cases runD T P n esc bad l2 st with
    | none => rfl
    | some r => simp
  | o :: l1, l2, st => by
    simp only [List.cons_append, runD]
    cases stepD T P n esc bad st.M o st with
    | none => rfl
    | some r =>
      obtain ⟨g, s⟩ := r
      simp only
      rw [runD_append l1 l2 s]
      cases runD T P n esc bad l1 s with
      | none => rfl
      | some r =>
        obtain ⟨g1, s1⟩ := r
        simp only
        cases runD T P n esc bad l2 s1 with
        | none => rfl
        | some r => simp [and_assoc]

theorem drawn_cut (k : Nat) (h : drawn T P n esc bad (l.take k) (fun s => drawn T P n esc bad (l.drop k) K s) st) : drawn T P n esc bad l K st := by
  obtain ⟨g, s, h1, hg, g', s', h2, hg', hk⟩ := h
  refine ⟨g ∧ g', s', ?_, ⟨hg, hg'⟩, hk⟩
  have e := runD_append (T := T) (P := P) (n := n) (esc := esc) (bad := bad) (l.take k) (l.drop k) st
  rw [List.take_append_drop] at e
  rw [e, h1]
  simp only [h2]

theorem drawn_run {g : Prop} (h : runD T P n esc bad l st = some (g, st')) (hg : g ∧ K st') : drawn T P n esc bad l K st := ⟨g, st', h, hg.1, hg.2⟩

theorem wps_drawn (T : Tab) (hT : TabOk P T) (hok : guardsOk ops = true) (hl : ops.toList.map (stripO ops) = l)
    (hlex : lexF ops (indB esc ops false) ops.size 0 = true)
    (h : drawn T P n esc (slots esc l) l (Q .normal) st) : wps P n esc (.draw ops l) Q st := by
  obtain ⟨g, st', h1, h2, h3⟩ := h
  exact wps_drawD T hT hok hl hlex h1 ⟨h2, h3⟩

/-- Only some slots count. -/
theorem wps_frame {c : SC} {fr : Nat → V} {M : Heap} {gen : Nat → Nat} (l : List (Nat × V)) (h : ∀ p ∈ l, fr p.1 = p.2) (k : ∀ fr', (∀ p ∈ l, fr' p.1 = p.2) → wps P n esc c Q ⟨fr', M, gen⟩) : wps P n esc c Q ⟨fr, M, gen⟩ := k fr h
theorem drawn_frame {fr : Nat → V} {M : Heap} {gen : Nat → Nat} (fs : List (Nat × V)) (h : ∀ p ∈ fs, fr p.1 = p.2) (k : ∀ fr', (∀ p ∈ fs, fr' p.1 = p.2) → drawn T P n esc bad l K ⟨fr', M, gen⟩) : drawn T P n esc bad l K ⟨fr, M, gen⟩ := k fr h
end
end Go.Eng
