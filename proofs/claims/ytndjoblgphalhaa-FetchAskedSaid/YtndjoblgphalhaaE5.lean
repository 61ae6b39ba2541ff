/- The engine, part 5: 'evalQ', one step of whatever leaves memory alone, and its soundness. -/
import Derived.Test.YtndjoblgphalhaaE4
namespace Go.Eng
set_option linter.unusedSimpArgs false
set_option linter.unusedVariables false

def opvs (fr : Nat → V) : List Operand → Option (Prop × List V)
  | [] => some (True, [])
  | x :: xs =>
    match opv fr x, opvs fr xs with
    | some (g, v), some (g', vs) => some (g ∧ v.tag < 22 ∧ g', v :: vs)
    | _, _ => none

theorem RO.of_tag {E : Env} {w : World} {v : V} {x : Value} (h : RO E w v x) (ht : v.tag < 22) : R E w v x := h.toR (fun s g o e => by subst e; simp [V.tag] at ht)

theorem opvs_sound {E : Env} {w : World} {fr : Nat → V} {a : Act} (hf : FR E w fr a.tmps) : ∀ {xs : List Operand} {c : Prop} {vs : List V}, opvs fr xs = some (c, vs) → c → RL E w vs (xs.map a.eval)
  | [], c, vs, h, hc => by simp [opvs] at h; obtain ⟨_, rfl⟩ := h; simp [RL]
  | x :: xs, c, vs, h, hc => by
    simp only [opvs] at h
    split at h <;> simp at h
    rename_i g v g' vs' h1 h2
    obtain ⟨e, rfl⟩ := h
    obtain ⟨k1, k3, k2⟩ := e.2 hc
    simp only [List.map_cons, RL]
    exact ⟨_, _, rfl, (opv_sound h1 k1 hf).of_tag k3, opvs_sound hf h2 k2⟩

def pickV (g : Prop) (c : Bool) (ra rb : Option (Prop × V)) : Option (Prop × V) :=
  match ra, rb with
  | some (ga, .bool x), some (gb, .bool y) => some (g ∧ (c = true → ga) ∧ (c = false → gb), .bool (bif c then x else y))
  | _, _ =>
    match c with
    | true => match ra with
      | some (ga, v) => some (g ∧ ga, v)
      | none => none
    | false => match rb with
      | some (gb, v) => some (g ∧ gb, v)
      | none => none

def unV (op : UnOp) : V → Option V
  | .bool b => match op with
    | .not => some (.bool (!b))
    | _ => none
  | .int k n => match op with
    | .neg => some (.int k (k.wrap (0 - n)))
    | .xor => some (.int k (bitsV .xor k (if k.signed then -1 else k.max) n))
    | _ => none
  | _ => none

def convV (s d : Option TypeDesc) (v : V) : Option V :=
  match s, d, v with
  | some _, some (.int k), .int _ n => some (.int k (k.wrap n))
  | some _, some .string, .str s => some (.str s)
  | _, _, _ => none

def mxV (isMax : Bool) : V → V → Option (Prop × V)
  | .int k a, .int k' b => some (k = k', .int k (if isMax then (if b > a then b else a) else (if b < a then b else a)))
  | _, _ => none

/-- Fields of a value that is built. -/
def fillV (P : Program) (t : TypeId) (fr : Nat → V) : List (Nat × Operand) → List V → Option (Prop × List V)
  | [], cs => some (True, cs)
  | (i, x) :: ps, cs =>
    match fieldInfo P t i, opv fr x with
    | some (off, T), some (g, v) =>
      if v.cells.length = T.size ∧ off + T.size ≤ cs.length then
        match fillV P t fr ps (cs.take off ++ v.cells ++ cs.drop (off + T.size)) with
        | some (g', r) => some (g ∧ v.tag < 20 ∧ g', r)
        | none => none
      else none
    | _, _ => none

def buildV (P : Program) (t : TypeId) (fr : Nat → V) (ps : List (Nat × Operand)) : Option (Prop × V) :=
  match P.underlying t, zeroV P t with
  | some (.struct fs), some (.agg z) =>
    if fs.toList.all (fun fd => (ti P fd.type).isSome) then
      match fillV P t fr ps z with
      | some (g, cs) => some (g, .agg cs)
      | none => none
    else none
  | _, _ => none

def isFuncFn : V → Bool
  | .fn (.func _) _ _ => true
  | .ptr _ _ | .eref _ _ | .lref _ _ _ | .iface _ _ => true
  | _ => false

/-- One operation that leaves memory alone: the condition under which it does, and its value. -/
def evalQ (P : Program) (M : Heap) (fr : Nat → V) : Op → Option (Prop × V)
  | .move x | .assign x => opv fr x
  | .pick c a b =>
    match opv fr c with
    | some (g, .bool c) => pickV g c (opv fr a) (opv fr b)
    | _ => none
  | .build t ps => buildV P t fr ps.toList
  | .load t a =>
    match ti P t, opv fr a with
    | some T, some (g, v) => match loadA M fr T v with
      | some (g', u) => some (g ∧ g', u)
      | none => none
    | _, _ => none
  | .binOp op t x y _ =>
    match opv fr x, opv fr y with
    | some (g, a), some (g', b) => match opV P op t x y a b with
      | some (g'', v) => some (g ∧ g' ∧ g'', v)
      | none => none
    | _, _ => none
  | .unOp op _ x =>
    match opv fr x with
    | some (g, a) => match unV op a with
      | some v => some (g, v)
      | none => none
    | none => none
  | .convert s d x =>
    match opv fr x with
    | some (g, a) => match convV (P.underlying s) (P.underlying d) a with
      | some v => some (g, v)
      | none => none
    | none => none
  | .fieldAddr t x f =>
    match fieldInfo P t f, opv fr x with
    | some (off, T), some (g, a) => match addrAdd a off with
      | some v => some (g ∧ T.size ≠ 0, v)
      | none => none
    | _, _ => none
  | .field t x f =>
    match fieldInfo P t f, opv fr x with
    | some (off, T), some (g, .agg cs) => match loadV T cs off with
      | some v => some (g, v)
      | none => none
    | _, _ => none
  | .indexAddr t x i =>
    match P.underlying t, opv fr x, opv fr i with
    | some (.slice e), some (g, .lst es), some (g', .int _ n) => match ti P e with
      | some T => some (g ∧ g' ∧ 0 ≤ n ∧ n < es.length ∧ (es.getD n.toNat []).length = T.size, .eref (es.getD n.toNat []) 0)
      | none => none
    | some (.array len e), some (g, a), some (g', .int _ n) => match ti P e with
      | some T => match addrAdd a (n.toNat * T.size) with
        | some v => some (g ∧ g' ∧ 0 ≤ n ∧ n < len, v)
        | none => none
      | none => none
    | _, _, _ => none
  | .index t x i =>
    match P.underlying t, opv fr x, opv fr i with
    | some .string, some (g, .str s), some (g', .int _ n) => some (g ∧ g' ∧ 0 ≤ n ∧ n < s.length, .int .u8 (s.getD n.toNat 0).toNat)
    | _, _, _ => none
  | .slice t x lo hi none =>
    match opv fr x, boundV fr lo, boundV fr hi with
    | some (g, a), some (g1, l), some (g2, h) => match sliceV P t a l h with
      | some (g3, v) => some (g ∧ g1 ∧ g2 ∧ g3, v)
      | none => none
    | _, _, _ => none
  | .lookup t m k ok =>
    match opv fr m, opv fr k with
    | some (g, m), some (g', k) => match lookupV P M t m k ok with
      | some v => some (g ∧ g', v)
      | none => none
    | _, _ => none
  | .extract x i =>
    match opv fr x with
    | some (g, .tup vs) => match vs[i]? with
      | some v => some (g, v)
      | none => none
    | _ => none
  | .makeFunc f first cap =>
    match opvs fr first.toList, opvs fr cap.toList with
    | some (g, vs), some (g', us) => some (g ∧ g', .fn f vs us)
    | _, _ => none
  | .makeInterface t x =>
    match P.underlying t, opv fr x with
    | some (.interface _), _ => none
    | some _, some (g, v) => some (g ∧ v.tag < 22, .iface t v)
    | _, _ => none
  | .nilCheck x =>
    match opv fr x with
    | some (g, v) => if isFuncFn v then some (g, v) else none
    | none => none
  | .call ⟨.builtin .len, args, ts⟩ =>
    match args[0]?, ts[0]? with
    | some x, some t => match opv fr x, P.underlying t with
      | some (g, .str s), some .string => some (g, .int .i64 s.length)
      | some (g, .lst es), some (.slice _) => some (g, .int .i64 es.length)
      | some (g, m), some (.map _ _) => match mapKVs M m with
        | some kvs => some (g, .int .i64 kvs.length)
        | none => none
      | _, _ => none
    | _, _ => none
  | .call ⟨.builtin .max, args, _⟩ =>
    match args.toList with
    | [x, y] => match opv fr x, opv fr y with
      | some (g, a), some (g', b) => match mxV true a b with
        | some (g'', v) => some (g ∧ g' ∧ g'', v)
        | none => none
      | _, _ => none
    | _ => none
  | .call ⟨.builtin .min, args, _⟩ =>
    match args.toList with
    | [x, y] => match opv fr x, opv fr y with
      | some (g, a), some (g', b) => match mxV false a b with
        | some (g'', v) => some (g ∧ g' ∧ g'', v)
        | none => none
      | _, _ => none
    | _ => none
  | _ => none

theorem fieldInfo_sound {P : Program} {t : TypeId} {f off : Nat} {T : TI} (h : fieldInfo P t f = some (off, T)) : ∃ fs fd, P.underlying t = some (.struct fs) ∧ fs[f]? = some fd ∧ ti P fd.type = some T ∧ fd.offset = off := by
  unfold fieldInfo at h
  split at h
  · rename_i fs hu
    split at h
    · rename_i fd hf
      split at h <;> simp at h
      rename_i T' hT
      obtain ⟨rfl, rfl⟩ := h
      exact ⟨fs, fd, hu, hf, hT, rfl⟩
    · simp at h
  · simp at h

theorem pickV_sound {P : Program} {E : Env} {w : World} {g : Prop} {c : Bool} {ra rb : Option (Prop × V)} {d : Prop} {v : V} {x y : Value} (h : pickV g c ra rb = some (d, v)) (hd : d)
    (ha : ∀ ga u, ra = some (ga, u) → ga → RO E w u x) (hb : ∀ gb u, rb = some (gb, u) → gb → RO E w u y) : g ∧ RO E w v (if c then x else y) := by
  unfold pickV at h
  split at h
  · rename_i ga p gb q
    simp at h; obtain ⟨h1, rfl⟩ := h
    rw [← h1] at hd
    obtain ⟨hg, h2, h3⟩ := hd
    refine ⟨hg, ?_⟩
    cases c
    · simpa using hb _ _ rfl (h3 rfl)
    · simpa using ha _ _ rfl (h2 rfl)
  · split at h
    · split at h <;> simp at h
      rename_i ga u
      obtain ⟨h1, rfl⟩ := h
      rw [← h1] at hd
      exact ⟨hd.1, by simpa using ha _ _ rfl hd.2⟩
    · split at h <;> simp at h
      rename_i ga u
      obtain ⟨h1, rfl⟩ := h
      rw [← h1] at hd
      exact ⟨hd.1, by simpa using hb _ _ rfl hd.2⟩

theorem setRange (off : Nat) : ∀ (ys : List Value) (arr : Array Value) (k : Nat), off + k + ys.length ≤ arr.size →
    ((ys.zipIdx k).foldl (fun cs (c, j) => cs.setIfInBounds (off + j) c) arr).toList = arr.toList.take (off + k) ++ ys ++ arr.toList.drop (off + k + ys.length)
  | [], arr, k, h => by simp
  | y :: ys, arr, k, h => by
    simp only [List.zipIdx_cons, List.foldl_cons, List.length_cons] at *
    rw [setRange off ys _ (k + 1) (by simp; omega)]
    have hlt : off + k < arr.toList.length := by simp; omega
    have e1 : (arr.setIfInBounds (off + k) y).toList.take (off + (k + 1)) = arr.toList.take (off + k) ++ [y] := by
      apply List.ext_getElem?
      intro i
      simp only [Array.toList_setIfInBounds, List.getElem?_take, List.getElem?_append, List.length_take, List.getElem?_set]
      simp at hlt
      have hm : min (off + k) arr.toList.length = off + k := by rw [Nat.min_eq_left]; simp; omega
      rw [hm]
      by_cases h1 : i < off + k
      · rw [if_pos (by omega), if_neg (by omega), if_pos h1, if_pos h1]
      · by_cases h2 : i = off + k
        · subst h2; rw [if_pos (by omega), if_pos rfl, if_neg h1]; simp [hlt]
        · rw [if_neg (by omega), if_neg h1]
          rw [List.getElem?_eq_none]; simp; omega
    have e2 : (arr.setIfInBounds (off + k) y).toList.drop (off + (k + 1) + ys.length) = arr.toList.drop (off + k + (ys.length + 1)) := by
      rw [Array.toList_setIfInBounds, List.drop_set_of_lt (by omega)]
      congr 1; omega
    rw [e1, e2]; simp

theorem R.cells' {E : Env} {w : World} {v : V} {x : Value} (ht : v.tag < 20) (h : R E w v x) : RL E w v.cells x.cells.toList :=
  R.cells (fun e => by subst e; simp [V.tag] at ht) h

theorem fillV_sound {P : Program} {E : Env} {w : World} {t : TypeId} {fs : Array Field} {fr : Nat → V} {a : Act} (hu : P.underlying t = some (.struct fs)) (hf : FR E w fr a.tmps)
    (places : Array (Nat × Nat)) (hp : ∀ (i : Nat) (fd : Field) (T : TI), fs[i]? = some fd → ti P fd.type = some T → places[i]? = some (fd.offset, T.size)) :
    ∀ (ps : List (Nat × Operand)) (cs : List V) (arr : Array Value) (c : Prop) (r : List V), fillV P t fr ps cs = some (c, r) → c → RL E w cs arr.toList →
      ∃ out : Array Value, Instr.fill (places[·]?) arr (ps.map fun p => (p.1, a.eval p.2)) = some out ∧ RL E w r out.toList
  | [], cs, arr, c, r, h, hc, hl => by simp [fillV] at h; obtain ⟨_, rfl⟩ := h; exact ⟨arr, by simp [Instr.fill], hl⟩
  | (i, x) :: ps, cs, arr, c, r, h, hc, hl => by
    unfold fillV at h
    split at h
    case h_2 => simp at h
    rename_i off T g v h1 h2
    split at h
    case isFalse => simp at h
    rename_i hsz
    split at h <;> simp at h
    rename_i g' r' h3
    obtain ⟨e, rfl⟩ := h
    rw [← e] at hc
    obtain ⟨k1, k2, k3⟩ := hc
    have hv := (opv_sound h2 k1 hf).of_tag (by omega)
    have hcells := R.cells' k2 hv
    obtain ⟨fs', fd, hu', hfd, hT, rfl⟩ := fieldInfo_sound h1
    rw [hu] at hu'; cases hu'
    have hpl := hp i fd T hfd hT
    have hlen := hcells.length
    have hlen2 := hl.length
    simp at hlen hlen2
    have hxs : (a.eval x).cells.size = T.size := by omega
    have hnew := setRange fd.offset (a.eval x).cells.toList arr 0 (by simp; omega)
    simp only [Nat.add_zero, Array.length_toList, hxs] at hnew
    have hfold : (a.eval x).cells.zipIdx.foldl (fun cs (c, j) => cs.setIfInBounds (fd.offset + j) c) arr = ((a.eval x).cells.toList.zipIdx 0).foldl (fun cs (c, j) => cs.setIfInBounds (fd.offset + j) c) arr := by
      rw [← Array.foldl_toList, Array.toList_zipIdx]
    obtain ⟨out, ho, hr⟩ := fillV_sound hu hf places hp ps _ (((a.eval x).cells.toList.zipIdx 0).foldl (fun cs (c, j) => cs.setIfInBounds (fd.offset + j) c) arr) g' r' h3 k3 (by
      rw [hnew]
      have ha := (hl.take fd.offset).append hcells
      exact ha.append (hl.drop (fd.offset + T.size)))
    refine ⟨out, ?_, hr⟩
    simp only [List.map_cons, Instr.fill, hpl]
    rw [if_neg (by
      simp only [hxs, ne_eq, not_true_eq_false, false_or]
      simp; omega)]
    rw [hfold]
    exact ho
end Go.Eng
