/- The engine, part 12: the operations of a region that draws its order. -/
import Derived.Test.YtndjoblgphalhaaE11
namespace Go.Eng
set_option linter.unusedSimpArgs false
set_option linter.unusedVariables false

def emptyH : Heap := fun _ => none

/-- A store into a variable of the function's own, marked so by 'esc': where. -/
def ownSt (esc : Nat → Bool) (o : Oper) : Option Nat :=
  match o.op, o.dst, o.guard with
  | .store _ (.tmp s) _, none, none => if esc (s + 1000000) then some s else none
  | _, _, _ => none

/-- What slot an operation turns. -/
def dstE (esc : Nat → Bool) (o : Oper) : Option Nat :=
  match o.dst with
  | some d => some d
  | none => ownSt esc o

/-- 0: it leaves memory alone; 1: a new local variable, or a store into one of the function's own; 2: a call; 3: whatever else. -/
def kindO (esc : Nat → Bool) (m : Bool) (o : Oper) : Nat :=
  match o.op with
  | .box _ _ | .alloc _ => match o.dst, o.guard with
    | some d, none => if esc d then 4 else 1
    | _, _ => 4
  | .call ⟨.value _, _, _⟩ => 2
  | .store _ _ _ => match ownSt esc o with
    | some _ => 1
    | none => if m && o.guard.isNone then 2 else 3
  | .mapUpdate _ _ _ _ => 3
  | op => if isA op then 0 else 4

def ordered (before : Array Nat) (i j : Nat) : Bool := (before.getD j 0).testBit i || (before.getD i 0).testBit j

/-- Slots that the region writes. -/
def badD (esc : Nat → Bool) (ops : Array Oper) (_i : Nat) : List Nat := ops.toList.filterMap (dstE esc)

/-- Is there a call on either side of operation i? -/
def blindB (esc : Nat → Bool) (m : Bool) (ops : Array Oper) (i : Nat) : Bool :=
  (List.range ops.size).any fun j => j != i && !ordered (Region.before ops) i j && ((ops[j]?).map fun o => kindO esc m o == 2).getD false

/-- Where an operation reads a local variable. -/
def reads (fr : Nat → V) : Op → Option Nat
  | .load _ a => match opv fr a with
    | some (_, .lref s _ _) => some s
    | _ => none
  | _ => none

def safe (fr : Nat → V) (bad : List Nat) (op : Op) : Prop := ∀ s, reads fr op = some s → s ∉ bad

/-- One outcome: what comes into the slot; is it a new variable? -/
def act (st : St) (dst : Option Nat) (v : V) (b : Bool) : St :=
  match dst with
  | some d => { st with fr := upd st.fr d v, gen := if b then bump st.gen d else st.gen }
  | none => st

def guardC (ops : Array Oper) (fr : Nat → V) : Option (Nat × Bool) → Option Bool
  | none => some true
  | some gd => guardOf ops fr gd

def wrapG (g : Option (Nat × Bool)) (c : Bool) (v : V) : V :=
  match g with
  | none => v
  | some _ => .when c v

/-- What operation i comes to (it leaves memory alone, or it is a new variable, or a call that leaves the heap alone). -/
def Det (P : Program) (n : Nat) (esc : Nat → Bool) (ops : Array Oper) (m : Bool) (i : Nat) (o : Oper) (st : St) (v : V) (b : Bool) : Prop :=
  dstLt n o.dst = true ∧
  match kindO esc m o with
  | 0 =>
    match guardC ops st.fr o.guard, evalQ P (if m && blindB esc m ops i then emptyH else st.M) st.fr o.op with
    | some c, some (need, u) => (c = true → need) ∧ safe st.fr (badD esc ops i) o.op ∧ v = wrapG o.guard c u ∧ b = false
    | some c, none => c = false ∧ o.guard.isSome = true ∧ safe st.fr (badD esc ops i) o.op ∧ v = .tup [] ∧ b = false
    | _, _ => False
  | 1 =>
    match o.op, o.dst with
    | .box _ x, some d => match opv st.fr x with
      | some (g, u) => g ∧ u.tag < 20 ∧ v = .box (st.gen d) u.cells ∧ b = true
      | none => False
    | .alloc t, some d => match zeroV P t with
      | some z => v = .box (st.gen d) z.cells ∧ b = true
      | none => False
    | .store t (.tmp s) x, none => match ti P t, opv st.fr x, st.fr s with
      | some T, some (g, u), .box g' cs => g ∧ u.cells.length ≤ cs.length ∧ u.cells.length = T.size ∧ u.tag < 20 ∧ (∀ c ∈ u.cells, cellOk c = true) ∧ v = .box g' (splice cs 0 u.cells) ∧ b = false
      | _, _, _ => False
    | _, _ => False
  | 2 =>
    match guardC ops st.fr o.guard, o.op with
    | some c, .call cl => match callV st.fr cl with
      | some (g, id, vs) => ∃ r, (c = true → g ∧ Pure P id vs st.M r) ∧ v = wrapG o.guard c r ∧ b = false
      | none => False
    | _, _ => False
  | _ => False

/-- What a call may come to that writes the heap. -/
def May (P : Program) (n : Nat) (ops : Array Oper) (o : Oper) (st : St) (S : V → Heap → Prop) : Prop :=
  dstLt n o.dst = true ∧ (∃ r M', S r M') ∧
  match o.op with
  | .call cl =>
    match guardC ops st.fr o.guard with
    | some c => (c = true → match callV st.fr cl with
        | some (g, id, vs) => g ∧ Spec P id vs st.M S
        | none => False) ∧ (c = false → ∀ r M', S r M' ↔ (r = .tup [] ∧ M' = st.M))
    | none => False
  | .store t a x => o.guard = none ∧
    match ti P t, opv st.fr a, opv st.fr x with
    | some T, some (g, .ptr ob off), some (g', v) =>
      match st.M ob with
      | some (.cells cs) => g ∧ g' ∧ off + v.cells.length ≤ cs.length ∧ v.cells.length = T.size ∧ v.tag < 20 ∧ (∀ c ∈ v.cells, cellOk c = true) ∧
          ∀ r M', S r M' ↔ (r = .tup [] ∧ M' = updH st.M ob (.cells (splice cs off v.cells)))
      | _ => False
    | _, _, _ => False
  | _ => False

def St.withM (st : St) (M' : Heap) : St := ⟨st.fr, M', st.gen⟩

def opd (P : Program) (n : Nat) (esc : Nat → Bool) (ops : Array Oper) (m : Bool) (i : Nat) (K : St → Prop) (st : St) : Prop :=
  match ops[i]? with
  | none => K st
  | some o =>
    if kindO esc m o == 3 then opg P n esc ops o K st
    else if kindO esc m o == 2 && m then ∃ S, May P n ops o st S ∧ ∀ r M', S r M' → K ((setD st o.dst r).withM M')
    else ∃ v b, Det P n esc ops m i o st v b ∧ K (act st (dstE esc o) v b)

/-- Neither looks at what the other one turns. -/
def apartE (esc : Nat → Bool) (ops : Array Oper) (x y : Oper) : Bool :=
  ((dstE esc x).all fun d => !(y.looksAt ops).contains d && dstE esc y != some d) && ((dstE esc y).all fun d => !(x.looksAt ops).contains d)

theorem apartE_spec {esc : Nat → Bool} {ops : Array Oper} {x y : Oper} (h : apartE esc ops x y = true) :
    (∀ d, dstE esc x = some d → d ∉ y.looksAt ops) ∧ (∀ d, dstE esc x = some d → dstE esc y ≠ some d) ∧ (∀ d, dstE esc y = some d → d ∉ x.looksAt ops) := by
  simp only [apartE, Bool.and_eq_true] at h
  obtain ⟨h1, h2⟩ := h
  refine ⟨fun d hd => ?_, fun d hd => ?_, fun d hd => ?_⟩
  · rw [hd] at h1; simp at h1; exact h1.1
  · rw [hd] at h1; simp at h1; exact h1.2
  · rw [hd] at h2; simpa using h2

/-- May operations i and j change places? -/
def indB (esc : Nat → Bool) (ops : Array Oper) (m : Bool) (i j : Nat) : Bool :=
  match ops[i]?, ops[j]? with
  | some oi, some oj =>
    apartE esc ops oi oj && ((dstE esc oi).all fun d => (badD esc ops j).contains d) && ((dstE esc oj).all fun d => (badD esc ops i).contains d) &&
    (match kindO esc m oi, kindO esc m oj with
     | 0, 0 | 0, 1 | 1, 0 | 1, 1 => true
     | 0, 2 => !m || blindB esc m ops i
     | 2, 0 => !m || blindB esc m ops j
     | 1, 2 | 2, 1 => true
     | 2, 2 => !m
     | _, _ => false)
  | _, _ => false

section
variable {P : Program} {n : Nat} {esc : Nat → Bool} {ops : Array Oper} {m : Bool}

theorem opv_upd {fr : Nat → V} {d : Nat} {v : V} {x : Operand} (h : x ≠ .tmp d) : opv (upd fr d v) x = opv fr x := by
  cases x with
  | tmp t =>
    have : t ≠ d := fun e => h (by rw [e])
    simp [opv, upd, this]
  | _ => rfl

theorem opvs_upd {fr : Nat → V} {d : Nat} {v : V} : ∀ {xs : List Operand}, (∀ x ∈ xs, x ≠ .tmp d) → opvs (upd fr d v) xs = opvs fr xs
  | [], _ => rfl
  | x :: xs, h => by
    simp only [opvs]
    rw [opv_upd (h x (by simp)), opvs_upd (fun y hy => h y (by simp [hy]))]

theorem fillV_upd {t : TypeId} {fr : Nat → V} {d : Nat} {v : V} : ∀ {ps : List (Nat × Operand)} {cs : List V}, (∀ p ∈ ps, p.2 ≠ .tmp d) → fillV P t (upd fr d v) ps cs = fillV P t fr ps cs
  | [], cs, _ => rfl
  | (i, x) :: ps, cs, h => by
    have e : opv (upd fr d v) x = opv fr x := opv_upd (h (i, x) (by simp))
    have ih : ∀ cs, fillV P t (upd fr d v) ps cs = fillV P t fr ps cs := fun cs => fillV_upd (fun p hp => h p (by simp [hp]))
    simp only [fillV, e, ih]

theorem boundV_upd {fr : Nat → V} {d : Nat} {v : V} {x : Option Operand} (h : ∀ y, x = some y → y ≠ .tmp d) : boundV (upd fr d v) x = boundV fr x := by
  cases x with
  | none => rfl
  | some y => simp only [boundV]; rw [opv_upd (h y rfl)]

theorem callV_upd {fr : Nat → V} {d : Nat} {v : V} {c : Call} (h : ∀ x ∈ c.operands, x ≠ .tmp d) : callV (upd fr d v) c = callV fr c := by
  unfold callV
  cases hc : c.callee with
  | value f =>
    simp only
    rw [opv_upd (h f (by simp [Call.operands, hc])), opvs_upd (fun x hx => h x (by simp [Call.operands, hc]; right; simpa using hx))]
  | _ => rfl

theorem loadA_upd {M : Heap} {fr : Nat → V} {d : Nat} {v a : V} {T : TI} (h : ∀ s g off, a = .lref s g off → s ≠ d) : loadA M (upd fr d v) T a = loadA M fr T a := by
  cases a <;> simp only [loadA]
  case lref s g off => simp [upd, h s g off rfl]

theorem evalQ_upd {M : Heap} {fr : Nat → V} {d : Nat} {v : V} {op : Op} (h : ∀ x ∈ op.operands, x ≠ .tmp d) (hr : ∀ s, reads fr op = some s → s ≠ d) : evalQ P M (upd fr d v) op = evalQ P M fr op := by
  cases op <;> simp only [evalQ] <;> simp only [Op.operands] at h
  case move x => rw [opv_upd (h x (by simp))]
  case assign x => rw [opv_upd (h x (by simp))]
  case pick c a b => rw [opv_upd (h c (by simp)), opv_upd (h a (by simp)), opv_upd (h b (by simp))]
  case build t ps =>
    have hh : ∀ z, fillV P t (upd fr d v) ps.toList z = fillV P t fr ps.toList z := fun z => fillV_upd (fun p hp => h p.2 (by simp; exact ⟨p.1, by simpa using hp⟩))
    simp only [buildV, hh]
  case load t a =>
    rw [opv_upd (h a (by simp))]
    split
    · rename_i T g u hT ho
      rw [loadA_upd (fun s g' off e => hr s (by simp only [reads, ho, e]))]
    · rfl
  case binOp op t x y ty => rw [opv_upd (h x (by simp)), opv_upd (h y (by simp))]
  case unOp op t x => rw [opv_upd (h x (by simp))]
  case convert s t x => rw [opv_upd (h x (by simp))]
  case fieldAddr t x f => rw [opv_upd (h x (by simp))]
  case field t x f => rw [opv_upd (h x (by simp))]
  case indexAddr t x i => rw [opv_upd (h x (by simp)), opv_upd (h i (by simp))]
  case index t x i => rw [opv_upd (h x (by simp)), opv_upd (h i (by simp))]
  case slice t x lo hi mx =>
    cases mx with
    | none =>
      simp only
      rw [opv_upd (h x (by simp)), boundV_upd (fun y e => h y (by simp [e])), boundV_upd (fun y e => h y (by simp [e]))]
    | some _ => rfl
  case lookup t x k ok => rw [opv_upd (h x (by simp)), opv_upd (h k (by simp))]
  case extract x i => rw [opv_upd (h x (by simp))]
  case makeFunc f first cap => rw [opvs_upd (fun x hx => h x (by simp at hx ⊢; exact .inl hx)), opvs_upd (fun x hx => h x (by simp at hx ⊢; exact .inr hx))]
  case makeInterface t x => rw [opv_upd (h x (by simp))]
  case nilCheck x => rw [opv_upd (h x (by simp))]
  case call c =>
    obtain ⟨cal, args, ts⟩ := c
    cases cal with
    | builtin b =>
      cases b <;> try rfl
      · simp only
        cases h0 : args[0]? with
        | none => rfl
        | some x =>
          have hx : x ∈ args := Array.mem_of_getElem? h0
          cases ts[0]? with
          | none => rfl
          | some t => simp only; rw [opv_upd (h x (by simp [Call.operands, hx]))]
      · simp only
        cases hl : args.toList with
        | nil => rfl
        | cons x l =>
          cases l with
          | nil => rfl
          | cons y l =>
            cases l with
            | nil =>
              have hx : x ∈ args := by rw [← Array.mem_toList_iff, hl]; simp
              have hy : y ∈ args := by rw [← Array.mem_toList_iff, hl]; simp
              simp only
              rw [opv_upd (h x (by simp [Call.operands, hx])), opv_upd (h y (by simp [Call.operands, hy]))]
            | cons z l => rfl
      · simp only
        cases hl : args.toList with
        | nil => rfl
        | cons x l =>
          cases l with
          | nil => rfl
          | cons y l =>
            cases l with
            | nil =>
              have hx : x ∈ args := by rw [← Array.mem_toList_iff, hl]; simp
              have hy : y ∈ args := by rw [← Array.mem_toList_iff, hl]; simp
              simp only
              rw [opv_upd (h x (by simp [Call.operands, hx])), opv_upd (h y (by simp [Call.operands, hy]))]
            | cons z l => rfl
    | value f => rfl
    | invoke r mth => rfl

theorem loadA_blind {M : Heap} {fr : Nat → V} {T : TI} {a : V} {r : Prop × V} (h : loadA emptyH fr T a = some r) : loadA M fr T a = some r := by
  cases a <;> simp only [loadA, emptyH] at h ⊢ <;> first | exact h | (simp at h)

theorem mapKVs_blind {M : Heap} {m : V} {r : List (V × V)} (h : mapKVs emptyH m = some r) : mapKVs M m = some r := by
  cases m <;> simp only [mapKVs, emptyH] at h ⊢ <;> first | exact h | (simp at h)

theorem evalQ_blind {M : Heap} {fr : Nat → V} {op : Op} {r : Prop × V} (h : evalQ P emptyH fr op = some r) : evalQ P M fr op = some r := by
  cases op <;> simp only [evalQ] at h ⊢ <;> try exact h
  case load t a =>
    split at h
    · rename_i T g u hT ho
      split at h
      · rename_i g' u' hl
        rw [loadA_blind hl]; exact h
      · simp at h
    · simp at h
  case slice t x lo hi mx => cases mx <;> exact h
  case lookup t x k ok =>
    split at h
    · rename_i g u g' u' h1 h2
      split at h
      · rename_i v' hl
        have : lookupV P M t u u' ok = some v' := by
          unfold lookupV at hl ⊢
          split at hl <;> try (simp at hl; done)
          split at hl <;> try (simp at hl; done)
          rename_i hd hkv
          rw [mapKVs_blind hkv]
          simp only [hd]
          exact hl
        rw [this]; exact h
      · simp at h
    · simp at h
  case call c =>
    obtain ⟨cal, args, ts⟩ := c
    cases cal with
    | builtin b =>
      cases b <;> try exact h
      simp only at h ⊢
      split at h
      · split at h <;> try exact h
        rename_i g mm k e _ _ _ _
        split at h
        · rename_i kvs hkv
          rw [mapKVs_blind hkv]; exact h
        · simp at h
      · simp at h
    | value f => exact h
    | invoke r mth => exact h
end
end Go.Eng
