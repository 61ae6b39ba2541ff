/- The engine, part 16: how it is run. -/
import Derived.Test.YtndjoblgphalhaaE15
namespace Go.Eng
set_option linter.unusedSimpArgs false
set_option linter.unusedVariables false

section
variable {P : Program} {n : Nat} {esc : Nat → Bool} {c x y : Code} {Q : Ex → St → Prop} {st st' : St} {ops : Array Oper} {l : List Oper} {K : St → Prop} {o : Oper}

theorem wpc_mono {Q' : Ex → St → Prop} (h : ∀ e s, Q e s → Q' e s) : ∀ {c : Code} {st : St}, wpc P n esc c Q st → wpc P n esc c Q' st := by
  intro c
  induction c generalizing Q Q' with
  | skip => exact fun hk => h _ _ hk
  | label l => exact fun hk => h _ _ hk
  | exit id => exact fun hk => h _ _ hk
  | ret => exact fun hk => h _ _ hk
  | seq a b iha ihb => exact fun hk => iha (fun e s hs => by cases e <;> first | exact ihb h hs | exact h _ _ hs) hk
  | cond c x y ihx ihy =>
    intro st hk
    simp only [wpc] at hk ⊢
    split at hk <;> try (exact hk.elim)
    exact ⟨hk.1, fun e => ihx h (hk.2.1 e), fun e => ihy h (hk.2.2 e)⟩
  | block id c ih =>
    exact fun hk => ih (fun e s hs => by
      cases e with
      | exit id' => simp only at hs ⊢; split <;> rename_i he <;> simp only [he, if_true, if_false] at hs <;> exact h _ _ hs
      | _ => exact h _ _ hs) hk
  | loop c ih =>
    rintro st ⟨I, μ, h0, hr⟩
    exact ⟨I, μ, h0, fun s hs => ih (fun e s' hs' => by cases e <;> first | exact hs' | exact h _ _ hs') (hr s hs)⟩
  | region id ops draw =>
    intro st hk
    cases draw with
    | false =>
      have : ∀ (l : List Oper) (s : St), opsg P n esc ops l (Q .normal) s → opsg P n esc ops l (Q' .normal) s := by
        intro l
        induction l with
        | nil => exact fun s hs => h _ _ hs
        | cons o l ih => exact fun s hs => opg_mono ih hs
      exact this _ _ hk
    | true =>
      obtain ⟨m, hB, hT⟩ := hk
      refine ⟨m, hB, ?_⟩
      have : ∀ (f k : Nat) (s : St), seqT (opd P n esc ops m) (Q .normal) f k s → seqT (opd P n esc ops m) (Q' .normal) f k s := by
        intro f
        induction f with
        | zero => exact fun k s hs => h _ _ hs
        | succ f ih => exact fun k s hs => opd_mono k _ _ s (fun s' hs' => ih (k + 1) s' hs') hs
      exact this _ _ _ hT
  | rangeFunc _ _ _ _ => exact fun hk => hk.elim
  | scope _ => exact fun hk => hk.elim
  | goto _ => exact fun hk => hk.elim
  | refuse _ => exact fun hk => hk.elim

end

/-! ### Code, stripped to what counts -/
structure SO where
  d : Option Nat
  g : Option (Nat × Bool)
  op : Op

inductive SC where
  | skip
  | seq (a b : SC)
  | reg (l : List SO)
  | draw (ops : Array Oper) (l : List SO)
  | cond (c : Operand) (x y : SC)
  | block (id : Nat) (c : SC)
  | loop (c : SC)
  | exit (id : Nat)
  | ret
  | bad

/-- The slot of a guard. -/
def stripG (ops : Array Oper) : Option (Nat × Bool) → Option (Nat × Bool)
  | none => none
  | some (j, want) => match ops[j]? with
    | some o => match o.dst with
      | some d => some (d, want)
      | none => some (1000000, want)
    | none => some (1000000, want)

def stripO (ops : Array Oper) (o : Oper) : SO := ⟨o.dst, stripG ops o.guard, o.op⟩

def strip : Code → SC
  | .skip => .skip
  | .label _ => .skip
  | .region _ ops draw => match draw with
    | false => .reg (ops.toList.map (stripO ops))
    | true => .draw ops (ops.toList.map (stripO ops))
  | .seq a b => .seq (strip a) (strip b)
  | .cond c x y => .cond c (strip x) (strip y)
  | .block id c => .block id (strip c)
  | .loop c => .loop (strip c)
  | .exit id => .exit id
  | .ret => .ret
  | _ => .bad

def wanted (fr : Nat → V) : Option (Nat × Bool) → Option Bool
  | none => some true
  | some (s, want) => guardB want (fr s)

def SO.oper (o : SO) : Oper := ⟨o.d, o.op, 0, "", #[], none⟩

/-- One operation that needn't be asked about: the condition, and the state behind it. -/
def step (P : Program) (n : Nat) (esc : Nat → Bool) (o : SO) (st : St) : Option (Prop × St) :=
  match dstLt n o.d with
  | false => none
  | true =>
    match o.op with
    | .box _ x =>
      match o.g, o.d, opv st.fr x with
      | none, some d, some (g, v) => if esc d then none else some (g ∧ v.tag < 20, ⟨upd st.fr d (.box (st.gen d) v.cells), st.M, bump st.gen d⟩)
      | _, _, _ => none
    | .alloc t =>
      match o.g, o.d, zeroV P t with
      | none, some d, some z => if esc d then none else some (True, ⟨upd st.fr d (.box (st.gen d) z.cells), st.M, bump st.gen d⟩)
      | _, _, _ => none
    | .store t a x =>
      match o.g, ti P t, opv st.fr a, opv st.fr x with
      | none, some T, some (g, av), some (g', v) =>
        match storeTo st v.cells av with
        | some (g'', st') => some (g ∧ g' ∧ g'' ∧ v.cells.length = T.size ∧ v.tag < 20 ∧ (∀ c ∈ v.cells, cellOk c = true), setD st' o.d (.tup []))
        | none => none
      | _, _, _, _ => none
    | op =>
      match isA op with
      | false => none
      | true =>
        match o.g with
        | none => match evalQ P st.M st.fr op with
          | some (g, v) => some (g, setD st o.d v)
          | none => none
        | some (s, want) =>
          match guardB want (st.fr s) with
          | some c => match evalQ P st.M st.fr op with
            | some (g, v) => some (c = true → g, setD st o.d (.when c v))
            | none => some (c = false, setD st o.d (.tup []))
          | none => none

/-- As far as it goes. -/
def run (P : Program) (n : Nat) (esc : Nat → Bool) : List SO → St → Prop × St × List SO
  | [], st => (True, st, [])
  | o :: l, st =>
    match step P n esc o st with
    | some (g, st') => (g ∧ (run P n esc l st').1, (run P n esc l st').2)
    | none => (True, st, o :: l)

/-- One operation, whatever it is. -/
def opO (P : Program) (n : Nat) (esc : Nat → Bool) (o : SO) (K : St → Prop) (st : St) : Prop :=
  dstLt n o.d = true ∧
  match o.g with
  | none => opw P esc o.oper K st
  | some (s, want) =>
    match guardB want (st.fr s) with
    | none => False
    | some c =>
      match isA o.op with
      | true => match evalQ P st.M st.fr o.op with
        | some (need, v) => (c = true → need) ∧ K (setD st o.d (.when c v))
        | none => c = false ∧ K (setD st o.d (.tup []))
      | false => ((c = true → opw P esc o.oper K st) ∧ (c = false → K (setD st o.d (.tup [])))) ∨ pcall P c (.when c) o.oper K st

def oss (P : Program) (n : Nat) (esc : Nat → Bool) : List SO → (St → Prop) → St → Prop
  | [], K, st => K st
  | o :: l, K, st => opO P n esc o (oss P n esc l K) st

def wps (P : Program) (n : Nat) (esc : Nat → Bool) : SC → (Ex → St → Prop) → St → Prop
  | .skip, Q, st => Q .normal st
  | .reg l, Q, st => oss P n esc l (Q .normal) st
  | .draw ops _, Q, st => ∃ m, wpDraw P n esc ops m (Q .normal) st
  | .seq a b, Q, st => wps P n esc a (fun e st => match e with
      | .normal => wps P n esc b Q st
      | e => Q e st) st
  | .cond c x y, Q, st =>
    match opv st.fr c with
    | some (g, .bool b) => g ∧ (b = true → wps P n esc x Q st) ∧ (b = false → wps P n esc y Q st)
    | _ => False
  | .block id c, Q, st => wps P n esc c (fun e st => match e with
      | .exit id' => if id' = id then Q .normal st else Q (.exit id') st
      | e => Q e st) st
  | .loop c, Q, st => ∃ (I : St → Prop) (μ : St → Nat), I st ∧ ∀ st, I st → wps P n esc c (fun e st' => match e with
      | .normal => I st' ∧ μ st' < μ st
      | e => Q e st') st
  | .exit id, Q, st => Q (.exit id) st
  | .ret, Q, st => Q .ret st
  | .bad, _, _ => False

section
variable {P : Program} {n : Nat} {esc : Nat → Bool} {c x y : Code} {Q : Ex → St → Prop} {st st' : St} {ops : Array Oper} {l : List SO} {K K' : St → Prop} {o : SO}

theorem opw_oper (o : Oper) : opw P esc (stripO ops o).oper K st = opw P esc o K st := by
  obtain ⟨dst, op, type, pos, after, guard⟩ := o
  rfl

theorem guardOf_strip (fr : Nat → V) (g : Nat × Bool) (c : Bool) (h : (match stripG ops (some g) with | some (s, want) => guardB want (fr s) | none => none) = some c) (hs : ∀ s want, stripG ops (some g) = some (s, want) → s ≠ 1000000) : guardOf ops fr g = some c := by
  obtain ⟨j, want⟩ := g
  simp only [stripG] at h hs
  simp only [guardOf]
  cases hj : ops[j]? with
  | none => simp only [hj] at hs; exact absurd rfl (hs _ _ rfl)
  | some o =>
    simp only [hj] at h hs ⊢
    cases hd : o.dst with
    | none => simp only [hd] at hs; exact absurd rfl (hs _ _ rfl)
    | some d => simp only [hd] at h ⊢; exact h

/-- Every guard has a slot. -/
def guardsOk (ops : Array Oper) : Bool := ops.toList.all fun o => match stripG ops o.guard with
  | some (s, _) => s != 1000000
  | none => true

def codeOk : Code → Bool
  | .region _ ops _ => guardsOk ops
  | .seq a b => codeOk a && codeOk b
  | .cond _ x y => codeOk x && codeOk y
  | .block _ c => codeOk c
  | .loop c => codeOk c
  | _ => true

theorem opO_strip {o : Oper} (hs : ∀ s want, stripG ops o.guard = some (s, want) → s ≠ 1000000) (h : opO P n esc (stripO ops o) K st) : opg P n esc ops o K st := by
  unfold opO at h
  unfold opg
  refine ⟨h.1, ?_⟩
  have h2 := h.2
  cases hg : o.guard with
  | none =>
    simp only [stripO, hg, stripG] at h2 ⊢
    rw [← opw_oper (ops := ops) (P := P) (esc := esc) (K := K) (st := st) o]
    simpa only [stripO, hg, stripG] using h2
  | some gd =>
    have hd : ∃ s want, stripG ops (some gd) = some (s, want) := by
      obtain ⟨j, want⟩ := gd
      simp only [stripG]
      split
      · split <;> exact ⟨_, _, rfl⟩
      · exact ⟨_, _, rfl⟩
    obtain ⟨s, want, hd⟩ := hd
    simp only [stripO, hg, hd] at h2
    cases hc : guardB want (st.fr s) with
    | none => simp only [hc] at h2
    | some c =>
      simp only [hc] at h2
      have hgo : guardOf ops st.fr gd = some c := guardOf_strip st.fr gd c (by rw [hd]; exact hc) (fun s' w' e => hs s' w' (by rw [hg]; exact e))
      simp only [hgo]
      exact h2

theorem oss_strip (hs : guardsOk ops = true) : ∀ (l : List Oper) (st : St), (∀ o ∈ l, o ∈ ops.toList) → oss P n esc (l.map (stripO ops)) K st → opsg P n esc ops l K st
  | [], st, _, h => h
  | o :: l, st, hm, h => by
    have ho := List.all_eq_true.1 hs o (hm o (by simp))
    refine opg_mono (fun s hs' => oss_strip hs l s (fun o' h' => hm o' (by simp [h'])) hs') (opO_strip (fun s want e => ?_) h)
    rw [e] at ho
    simpa using ho

theorem wps_strip : ∀ (c : Code) (Q : Ex → St → Prop) (st : St), codeOk c = true → wps P n esc (strip c) Q st → wpc P n esc c Q st
  | .skip, Q, st, _, h => h
  | .label _, Q, st, _, h => h
  | .region id ops draw, Q, st, hc, h => by
    cases draw with
    | false => exact oss_strip hc ops.toList st (fun o ho => ho) h
    | true => exact h
  | .seq a b, Q, st, hc, h => by
    simp only [codeOk, Bool.and_eq_true] at hc
    have h1 := wps_strip a (fun e st => match e with
      | .normal => wps P n esc (strip b) Q st
      | e => Q e st) st hc.1 h
    show wpc P n esc a (fun e st => match e with
      | .normal => wpc P n esc b Q st
      | e => Q e st) st
    exact wpc_mono (fun e s hs => by cases e <;> first | exact wps_strip b Q s hc.2 hs | exact hs) h1
  | .cond c x y, Q, st, hc, h => by
    simp only [codeOk, Bool.and_eq_true] at hc
    simp only [strip, wps] at h
    simp only [wpc]
    cases hcv : opv st.fr c with
    | none => simp only [hcv] at h
    | some gv =>
      obtain ⟨g, v⟩ := gv
      simp only [hcv] at h ⊢
      cases v <;> first | exact h.elim | exact ⟨h.1, fun e => wps_strip x Q st hc.1 (h.2.1 e), fun e => wps_strip y Q st hc.2 (h.2.2 e)⟩
  | .block id c, Q, st, hc, h => wps_strip c _ st hc h
  | .loop c, Q, st, hc, h => by
    obtain ⟨I, μ, h0, hr⟩ := h
    exact ⟨I, μ, h0, fun s hs => wps_strip c _ s hc (hr s hs)⟩
  | .exit id, Q, st, _, h => h
  | .ret, Q, st, _, h => h
  | .rangeFunc _ _ _ _, Q, st, _, h => h.elim
  | .scope _, Q, st, _, h => h.elim
  | .goto _, Q, st, _, h => h.elim
  | .refuse _, Q, st, _, h => h.elim

theorem step_sound {g : Prop} (h : step P n esc o st = some (g, st')) (hg : g) (hk : K st') : opO P n esc o K st := by
  unfold step at h
  cases hd : dstLt n o.d with
  | false => simp only [hd] at h; cases h
  | true =>
    simp only [hd] at h
    refine ⟨hd, ?_⟩
    split at h
    · rename_i t x hop
      split at h <;> try (cases h; done)
      rename_i d g' v h1 h2 h3
      split at h
      · cases h
      · rename_i he
        simp only [Option.some.injEq, Prod.mk.injEq] at h
        obtain ⟨rfl, rfl⟩ := h
        simp only [h1]
        unfold opw
        simp only [SO.oper, hop, h3, newVarW, h2, he, if_false]
        exact ⟨hg.1, hg.2, hk⟩
    · rename_i t hop
      split at h <;> try (cases h; done)
      rename_i d z h1 h2 h3
      split at h
      · cases h
      · rename_i he
        simp only [Option.some.injEq, Prod.mk.injEq] at h
        obtain ⟨rfl, rfl⟩ := h
        simp only [h1]
        unfold opw
        simp only [SO.oper, hop, h3, newVarW, h2, he, if_false]
        exact hk
    · rename_i t ad x hop
      split at h <;> try (cases h; done)
      rename_i T g1 av g2 v h1 h2 h3 h4
      split at h <;> try (cases h; done)
      rename_i g3 st1 h5
      simp only [Option.some.injEq, Prod.mk.injEq] at h
      obtain ⟨rfl, rfl⟩ := h
      simp only [h1]
      unfold opw
      simp only [SO.oper, hop, h2, h3, h4, h5]
      obtain ⟨k1, k2, k3, k4, k5, k6⟩ := hg
      exact ⟨k1, k2, k3, k4, k5, k6, hk⟩
    · rename_i op n1 n2 n3
      cases hA : isA o.op with
      | false => simp only [hA] at h; cases h
      | true =>
        simp only [hA] at h
        cases hgd : o.g with
        | none =>
          simp only [hgd] at h
          split at h <;> try (cases h; done)
          rename_i g' v he
          simp only [Option.some.injEq, Prod.mk.injEq] at h
          obtain ⟨rfl, rfl⟩ := h
          simp only
          unfold opw
          simp only [SO.oper]
          split <;> rename_i hop <;> first
            | (simp only [hop, isA] at hA; cases hA; done)
            | (simp only [he]; exact ⟨hg, hk⟩)
        | some sw =>
          obtain ⟨s, want⟩ := sw
          simp only [hgd] at h ⊢
          cases hc : guardB want (st.fr s) with
          | none => simp only [hc] at h; cases h
          | some c =>
            simp only [hc] at h ⊢
            cases he : evalQ P st.M st.fr o.op with
            | none =>
              simp only [he, Option.some.injEq, Prod.mk.injEq] at h ⊢
              obtain ⟨rfl, rfl⟩ := h
              exact ⟨hg, hk⟩
            | some gv =>
              obtain ⟨g', v⟩ := gv
              simp only [he, Option.some.injEq, Prod.mk.injEq] at h ⊢
              obtain ⟨rfl, rfl⟩ := h
              exact ⟨hg, hk⟩

theorem run_sound : ∀ (l : List SO) (st : St), (run P n esc l st).1 → oss P n esc (run P n esc l st).2.2 K (run P n esc l st).2.1 → oss P n esc l K st
  | [], st, _, h => h
  | o :: l, st, hg, h => by
    unfold run at hg h
    cases hs : step P n esc o st with
    | none => simp only [hs] at h; exact h
    | some gs =>
      obtain ⟨g, st'⟩ := gs
      simp only [hs] at hg h
      exact step_sound hs hg.1 (run_sound l st' hg.2 h)

/-! ### Rules for use -/
/-- A region, as far as it goes. -/
theorem wps_reg (h : (run P n esc l st).1 ∧ oss P n esc (run P n esc l st).2.2 (Q .normal) (run P n esc l st).2.1) : wps P n esc (.reg l) Q st := run_sound l st h.1 h.2
theorem oss_run (h : (run P n esc l st).1 ∧ oss P n esc (run P n esc l st).2.2 K (run P n esc l st).2.1) : oss P n esc l K st := run_sound l st h.1 h.2
theorem oss_nil (h : K st) : oss P n esc [] K st := h
theorem wps_seq_k {x y : SC} (h : ∀ K : St → Prop, (∀ s, wps P n esc y Q s → K s) → wps P n esc x (fun e s => match e with | .normal => K s | e => Q e s) st) : wps P n esc (.seq x y) Q st := h _ fun _ h => h
end

theorem upd_app (fr : Nat → V) (d : Nat) (v : V) (s : Nat) : upd fr d v s = if s = d then v else fr s := rfl

/-- The program's function f, stripped. -/
def FnOk (P : Program) (f : FuncId) (n : Nat) (rs : List ResultVar) (sc : SC) : Prop :=
  P.follows .mixedOrders = true ∧ ∃ fn, P.funcs[f]? = some fn ∧ (fn.name == "runtime.NumGoroutine") = false ∧ fn.ntmps = n ∧ fn.results.toList = rs ∧ fn.body.map strip = some sc ∧ fn.body.map codeOk = some true

/-- A CONTRACT, OUT OF THE STRIPPED CODE. -/
theorem Spec.strip {P : Program} {f : FuncId} {n : Nat} {rs : List ResultVar} {args : List V} {M : Heap} {Post : V → Heap → Prop} {sc : SC} (esc : Nat → Bool) (hf : FnOk P f n rs sc) (ha : args.length ≤ n)
    (h : wps P n esc sc (endQ P rs Post) ⟨fun t => args.getD t (.tup []), M, fun _ => 0⟩) : Spec P f args M Post := by
  obtain ⟨hmix, fn, hf, hname, hn, hrs, hb, hok⟩ := hf
  cases hc : fn.body with
  | none => simp [hc] at hb
  | some c =>
    simp [hc] at hb hok
    exact Spec.intro esc hmix hf hc hname hn hrs ha (wps_strip c _ _ hok (hb ▸ h))
end Go.Eng
