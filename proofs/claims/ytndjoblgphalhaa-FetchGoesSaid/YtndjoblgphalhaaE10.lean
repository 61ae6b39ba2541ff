/- The engine, part 10: guards; regions in the order of the text; regions that draw their order. -/
import Derived.Test.YtndjoblgphalhaaE9
namespace Go.Eng
set_option linter.unusedSimpArgs false
set_option linter.unusedVariables false

/-- Was an operation wanted, told by what another one yielded? -/
def guardB (want : Bool) : V → Option Bool
  | .bool b => some (b == want)
  | .when c v => match guardB want v with
    | some b => some (c && b)
    | none => none
  | .tup [] => some false
  | _ => none

def guardOf (ops : Array Oper) (fr : Nat → V) : Nat × Bool → Option Bool
  | (j, want) =>
    match ops[j]? with
    | some o => match o.dst with
      | some d => guardB want (fr d)
      | none => none
    | none => none

def isA : Op → Bool
  | .box _ _ | .alloc _ | .store _ _ _ | .mapUpdate _ _ _ _ | .makeMap _ _ | .range _ _ | .next _ _ | .call ⟨.value _, _, _⟩ => false
  | _ => true

def dstLt (n : Nat) : Option Nat → Bool
  | some d => decide (d < n)
  | none => true

/-- A call under a condition, of what leaves the heap alone. -/
def pcall (P : Program) (c : Bool) (w : V → V) (o : Oper) (K : St → Prop) (st : St) : Prop :=
  match o.op with
  | .call cl => match callV st.fr cl with
    | some (g, id, vs) => ∃ r, (c = true → g ∧ Pure P id vs st.M r) ∧ K (setD st o.dst (w r))
    | none => False
  | _ => False

/-- One operation, with its guard. -/
def opg (P : Program) (n : Nat) (esc : Nat → Bool) (ops : Array Oper) (o : Oper) (K : St → Prop) (st : St) : Prop :=
  dstLt n o.dst = true ∧
  match o.guard with
  | none => opw P esc o K st
  | some gd =>
    match guardOf ops st.fr gd with
    | none => False
    | some c =>
      match isA o.op with
      | true => match evalQ P st.M st.fr o.op with
        | some (need, v) => (c = true → need) ∧ K (setD st o.dst (.when c v))
        | none => c = false ∧ K (setD st o.dst (.tup []))
      | false => ((c = true → opw P esc o K st) ∧ (c = false → K (setD st o.dst (.tup [])))) ∨ pcall P c (.when c) o K st

section
variable {P : Program} {E0 E : Env} {w0 w : World} {n : Nat} {st : St} {a : Act} {esc : Nat → Bool} {K : St → Prop} {Q : Exit → Act → World → Prop} {ops : Array Oper}

theorem guardB_sound {t : Nat} {want : Bool} : ∀ {v : V} {x : Value} {c : Bool}, guardB want v = some c → RS E w t v x → ((match x with | .bool b => some b | _ => none) == some want) = c
  | .bool b, x, c, h, hr => by
    simp [guardB] at h; subst h
    simp only [RS, R] at hr; subst hr
    cases b <;> cases want <;> rfl
  | .when d v, x, c, h, hr => by
    simp only [guardB] at h
    split at h <;> simp at h
    rename_i b hb
    subst h
    simp only [RS] at hr
    cases d with
    | true => simpa using guardB_sound hb (hr.1 rfl)
    | false => have := hr.2 rfl; subst this; simp [undef]
  | .tup vs, x, c, h, hr => by
    cases vs <;> simp [guardB] at h
    subst h
    simp only [RS, R] at hr
    obtain ⟨xs, rfl, _⟩ := hr
    rfl
  | .any, x, c, h, hr => by simp [guardB] at h
  | .int _ _, x, c, h, hr => by simp [guardB] at h
  | .str _, x, c, h, hr => by simp [guardB] at h
  | .agg _, x, c, h, hr => by simp [guardB] at h
  | .lst _, x, c, h, hr => by simp [guardB] at h
  | .nilp, x, c, h, hr => by simp [guardB] at h
  | .ptr _ _, x, c, h, hr => by simp [guardB] at h
  | .eref _ _, x, c, h, hr => by simp [guardB] at h
  | .lref _ _ _, x, c, h, hr => by simp [guardB] at h
  | .box _ _, x, c, h, hr => by simp [guardB] at h
  | .itr _ _ _, x, c, h, hr => by simp [guardB] at h
  | .nilm, x, c, h, hr => by simp [guardB] at h
  | .map _, x, c, h, hr => by simp [guardB] at h
  | .fn _ _ _, x, c, h, hr => by simp [guardB] at h
  | .nilf, x, c, h, hr => by simp [guardB] at h
  | .iface _ _, x, c, h, hr => by simp [guardB] at h
  | .nili, x, c, h, hr => by simp [guardB] at h

theorem guardOf_sound {o : Oper} {gd : Nat × Bool} {c : Bool} (hg : o.guard = some gd) (hf : FR E w st.fr a.tmps) (h : guardOf ops st.fr gd = some c) : Region.wanted o (yielded ops a.tmps) = c := by
  obtain ⟨j, want⟩ := gd
  simp only [guardOf] at h
  split at h <;> try (simp at h; done)
  rename_i oj hj
  split at h <;> try (simp at h; done)
  rename_i d hd
  have := guardB_sound h (hf d)
  simp only [Region.wanted, hg]
  rw [← this]
  simp only [yielded, hj, hd, Option.bind_some]
  congr 1
  cases hx : a.tmps[d]? with
  | none =>
    have : a.tmps.getD d undef = undef := by simp [Array.getD_eq_getD_getElem?, hx]
    rw [this]; simp [undef]
  | some x =>
    have : a.tmps.getD d undef = x := by simp [Array.getD_eq_getD_getElem?, hx]
    rw [this]
    cases x <;> rfl

theorem dstLt_spec {n : Nat} {dst : Option Nat} (h : dstLt n dst = true) : ∀ d, dst = some d → d < n := by
  intro d hd; subst hd; simpa [dstLt] using h

/-- A value under a condition. -/
theorem RS.whenT {t : Nat} {v : V} {x : Value} {c : Bool} (hc : c = true) (h : RO E w v x) : RS E w t (.when c v) x := by
  simp only [RS]; exact ⟨fun _ => RS.of_RO h, fun hf => absurd hc (by simp [hf])⟩
theorem RS.whenF {t : Nat} {v : V} {c : Bool} (hc : c = false) : RS E w t (.when c v) undef := by
  simp only [RS]; exact ⟨fun hf => absurd hf (by simp [hc]), fun _ => trivial⟩

theorem pcall_sound {o : Oper} {c : Bool} {wr : V → V} (h : RSt E0 w0 n E w st a) (hd : ∀ d, o.dst = some d → d < n) (hc : c = true) (hwr : ∀ (E' : Env) (w' : World) (t : Nat) (r : V) (x : Value), RO E' w' r x → RS E' w' t (wr r) x)
    (hk : pcall P c wr o K st) : o.wp P a w (Nxt E0 w0 n K) Q := by
  obtain ⟨dst, op, type, pos, after, guard⟩ := o
  unfold pcall at hk
  simp only at hk
  split at hk <;> try (exact hk.elim)
  rename_i cl
  split at hk <;> try (exact hk.elim)
  rename_i g id vs h1
  obtain ⟨r, h2, h3⟩ := hk
  obtain ⟨k1, hp⟩ := h2 hc
  obtain ⟨xs, hrun, hl⟩ := callV_sound (P := P) (w := w) (type := type) h.fr h1 k1
  unfold Oper.wp
  simp only [execOp]
  rw [hrun]
  obtain ⟨⟨fn, hfn, hname, hbody⟩, hcall⟩ := hp
  have e1 : fn.name ≠ "runtime.NumGoroutine" := by simpa using hname
  have e2 : fn.body ≠ none := by intro e; simp [e] at hbody
  have hrun : (callFunc id xs).run P w = .ok (.enter id xs) w := by
    simp [callFunc, hfn, e1, e2]
  rw [hrun, Oper.upon_enter]
  have hlat := later_callee E w
  refine (hcall (callee E) w xs (fun _ _ => rfl) (inv_callee h.inv) (RL.later hlat _ _ hl) (fun o ho hM => ?_)).mono fun e w' he => ?_
  · obtain ⟨b, hb, hr⟩ := h.heap o ho hM
    exact ⟨b, hb, hr.later hlat rfl⟩
  · obtain ⟨x, r', M', E', rfl, ⟨rfl, rfl⟩, hr, hm, hi⟩ := he
    refine ⟨back E E', setD st dst (wr r'), ?_, h3⟩
    have hb := later_back hi
    have h' : RSt E0 w0 n (back E E') w' st a := by
      refine ⟨inv_call h.inv hi, fun t => RS.call h.inv hi (h.fr t), h.size, fun o ho hM => ?_, h.defers, h.gens⟩
      obtain ⟨b, hb', hr'⟩ := hm o ho hM
      exact ⟨b, hb', hr'.later hb rfl⟩
    exact h'.put hd (fun t => hwr _ _ _ _ _ (RO.of_R (R.later hb _ _ hr)))

theorem opg_sound {o : Oper} {i : Nat} (hi : ops[i]? = some o) (h : RSt E0 w0 n E w st a) (hk : opg P n esc ops o K st) : wpOp P ops Q i (Nxt E0 w0 n K) a w := by
  obtain ⟨hd, hk⟩ := hk
  have hd := dstLt_spec hd
  unfold wpOp
  simp only [hi]
  cases hg : o.guard with
  | none =>
    have hw : Region.wanted o (yielded ops a.tmps) = true := by simp [Region.wanted, hg]
    simp only [hg] at hk
    rw [if_pos hw]
    exact .inl (opw_sound h hd hk)
  | some gd =>
    simp only [hg] at hk
    split at hk <;> try (exact hk.elim)
    rename_i c hc
    have hw := guardOf_sound hg h.fr hc
    rw [hw]
    split at hk
    · -- it leaves memory alone
      split at hk
      · rename_i need v hev
        cases c with
        | true =>
          obtain ⟨x, hx, hr⟩ := evalQ_sound (o := o) hev (hk.1 rfl) h.fr h.heap
          rw [if_pos rfl]
          refine .inl ?_
          unfold Oper.wp
          rw [hx, Oper.upon_value]
          exact ⟨E, _, h.put hd (fun t => RS.whenT rfl hr), hk.2⟩
        | false =>
          rw [if_neg (by simp)]
          exact ⟨E, _, h.put hd (fun t => RS.whenF rfl), hk.2⟩
      · obtain ⟨rfl, hk⟩ := hk
        rw [if_neg (by simp)]
        exact ⟨E, _, h.put hd RS_tupnil, hk⟩
    · rcases hk with hk | hk
      · cases c with
        | true => rw [if_pos rfl]; exact .inl (opw_sound h hd (hk.1 rfl))
        | false => rw [if_neg (by simp)]; exact ⟨E, _, h.put hd RS_tupnil, hk.2 rfl⟩
      · cases c with
        | true => rw [if_pos rfl]; exact .inl (pcall_sound h hd rfl (fun E' w' t r x hr => RS.whenT rfl hr) hk)
        | false =>
          rw [if_neg (by simp)]
          unfold pcall at hk
          split at hk <;> try (exact hk.elim)
          split at hk <;> try (exact hk.elim)
          obtain ⟨r, _, h3⟩ := hk
          exact ⟨E, _, h.put hd (fun t => RS.whenF rfl), h3⟩

/-- A region in the order of the text. -/
def opsg (P : Program) (n : Nat) (esc : Nat → Bool) (ops : Array Oper) : List Oper → (St → Prop) → St → Prop
  | [], K, st => K st
  | o :: os, K, st => opg P n esc ops o (opsg P n esc ops os K) st

theorem opsg_sound (hq : ∀ a w, Nxt E0 w0 n K a w → Q .normal a w) : ∀ (l : List Oper) (k : Nat) (E : Env) (w : World) (st : St) (a : Act), (∀ j, l[j]? = ops[k + j]?) → RSt E0 w0 n E w st a → opsg P n esc ops l K st →
    wpOps P ops Q ((List.range l.length).map (k + ·)) a w
  | [], k, E, w, st, a, hl, h, hk => by simp only [List.length_nil, List.range_zero, List.map_nil, wpOps]; exact hq _ _ ⟨E, st, h, hk⟩
  | o :: l, k, E, w, st, a, hl, h, hk => by
    have h0 : ops[k]? = some o := by simpa using (hl 0).symm
    have hr : (List.range (o :: l).length).map (k + ·) = k :: (List.range l.length).map ((k + 1) + ·) := by
      rw [List.length_cons, List.range_succ_eq_map]
      simp only [List.map_cons, Nat.add_zero, List.map_map, List.cons.injEq, true_and]
      apply List.map_congr_left
      intro i _
      simp only [Function.comp_apply, Nat.succ_eq_add_one]
      omega
    rw [hr, wpOps_cons]
    refine wpOp_mono (fun a' w' hn => ?_) (opg_sound h0 h hk)
    obtain ⟨E', st', h', hk'⟩ := hn
    exact opsg_sound hq l (k + 1) E' w' st' a' (fun j => by have := hl (j + 1); simpa [Nat.add_assoc, Nat.add_comm 1 j] using this) h' hk'
end
end Go.Eng
