/- The engine, part 9: soundness of 'opw'. -/
import Derived.Test.YtjcjoeechmlpgaaGreatEA
namespace Go.Eng
set_option linter.unusedSimpArgs false
set_option linter.unusedVariables false

section
variable {P : Program} {E0 E : Env} {w0 w : World} {n : Nat} {st : St} {a : Act} {esc : Nat → Bool} {K : St → Prop} {Q : Exit → Act → World → Prop}

/-- What a callee sees: no local variable; ours belong to others. -/
def callee (E : Env) : Env := { ob := E.ob, bx := fun _ _ => none, ex := fun b => E.ex b ∨ ∃ s g, E.bx s g = some b }
def back (E E' : Env) : Env := { ob := E'.ob, bx := E.bx, ex := E.ex }

theorem callee_own (E : Env) (b : Nat) : (callee E).own b ↔ E.own b := by
  unfold Env.own callee
  simp
  constructor
  · rintro (h | h | h)
    · exact .inl h
    · exact .inr (.inr h)
    · exact .inr (.inl h)
  · rintro (h | h | h)
    · exact .inl h
    · exact .inr (.inr h)
    · exact .inr (.inl h)

theorem later_callee (E : Env) (w : World) : Later E w (callee E) w := ⟨Nat.le_refl _, fun _ _ h => h, fun b _ h => (callee_own E b).1 h, fun _ _ _ => rfl⟩

theorem inv_callee (h : Inv E0 w0 E w) : Inv (callee E) w (callee E) w where
  size := Nat.le_refl _
  obm := fun _ _ hb => hb
  obn := fun _ _ hb _ => hb
  bxn := fun s g b hb => by simp [callee] at hb
  ex := rfl
  exlt := fun b hb => by
    rcases hb with hb | ⟨s, g, hb⟩
    · rw [h.ex] at hb; have := h.exlt b hb; have := h.size; omega
    · exact h.bxlt s g b hb
  keep := fun _ _ _ => rfl
  os := rfl
  tape := rfl
  output := rfl
  oblt := h.oblt
  bxlt := fun s g b hb => by simp [callee] at hb
  obinj := h.obinj
  bxinj := fun s g s' g' b hb => by simp [callee] at hb
  obbx := fun o s g b _ hb => by simp [callee] at hb
  fin := h.fin

theorem own_back {E' : Env} {b : Nat} {w' : World} (hi : Inv (callee E) w E' w') (h : (back E E').own b) : E'.own b := by
  rcases h with h | ⟨s, g, h⟩ | h
  · exact .inl h
  · exact .inr (.inr (by rw [hi.ex]; exact .inr ⟨s, g, h⟩))
  · exact .inr (.inr (by rw [hi.ex]; exact .inl h))

theorem later_back {E' : Env} {w' : World} (hi : Inv (callee E) w E' w') : Later E' w' (back E E') w' :=
  ⟨Nat.le_refl _, fun _ _ h => h, fun b _ h => own_back hi h, fun _ _ _ => rfl⟩

/-- Behind a call. -/
theorem later_call (h : Inv E0 w0 E w) {E' : Env} {w' : World} (hi : Inv (callee E) w E' w') : Later E w (back E E') w' where
  size := hi.size
  ob := fun o b hb => hi.obm o b hb
  own := fun b hb ho => by
    rcases ho with ⟨o, ho⟩ | ho | ho
    · exact .inl ⟨o, hi.obn o b ho hb⟩
    · exact .inr (.inl ho)
    · exact .inr (.inr ho)
  keep := fun b hb hn => hi.keep b hb (fun o ho => hn (.inl ⟨o, ho⟩))

theorem inv_call (h : Inv E0 w0 E w) {E' : Env} {w' : World} (hi : Inv (callee E) w E' w') : Inv E0 w0 (back E E') w' where
  size := Nat.le_trans h.size hi.size
  obm := fun o b hb => hi.obm o b (h.obm o b hb)
  obn := fun o b hb hlt => h.obn o b (hi.obn o b hb (Nat.lt_of_lt_of_le hlt h.size)) hlt
  bxn := h.bxn
  ex := h.ex
  exlt := h.exlt
  keep := fun b hb hn => by
    rw [hi.keep b (Nat.lt_of_lt_of_le hb h.size) (fun o ho => hn o (h.obn o b ho hb))]
    exact h.keep b hb hn
  os := hi.os.trans h.os
  tape := hi.tape.trans h.tape
  output := hi.output.trans h.output
  oblt := hi.oblt
  bxlt := fun s g b hb => Nat.lt_of_lt_of_le (h.bxlt s g b hb) hi.size
  obinj := hi.obinj
  bxinj := h.bxinj
  obbx := fun o s g b hb hs => h.obbx o s g b (hi.obn o b hb (h.bxlt s g b hs)) hs
  fin := hi.fin

theorem RS.call (h : Inv E0 w0 E w) {E' : Env} {w' : World} (hi : Inv (callee E) w E' w') {t : Nat} : ∀ {v : V} {x : Value}, RS E w t v x → RS (back E E') w' t v x
  | .box g cs, x, hr => by
    simp only [RS] at hr ⊢
    obtain ⟨b, arr, ty, h1, rfl, h3, h4⟩ := hr
    exact ⟨b, arr, ty, h1, rfl, by rw [hi.keep b (h.bxlt _ _ _ h1) (fun o ho => h.obbx o t g b ho h1)]; exact h3, RL.later (later_call h hi) _ _ h4⟩
  | .itr g s pos, x, hr => by
    simp only [RS] at hr ⊢
    obtain ⟨b, h1, rfl, h3, h4⟩ := hr
    exact ⟨b, h1, rfl, by rw [hi.keep b (h.bxlt _ _ _ h1) (fun o ho => h.obbx o t g b ho h1)]; exact h3, h4⟩
  | .lref s g off, x, hr => by simp only [RS] at hr ⊢; exact hr
  | .when c v, x, hr => by
    simp only [RS] at hr ⊢
    exact ⟨fun hc => RS.call h hi (hr.1 hc), hr.2⟩
  | .any, x, hr => by simp only [RS] at hr ⊢; exact R.later (later_call h hi) _ _ hr
  | .bool _, x, hr => by simp only [RS] at hr ⊢; exact R.later (later_call h hi) _ _ hr
  | .int _ _, x, hr => by simp only [RS] at hr ⊢; exact R.later (later_call h hi) _ _ hr
  | .str _, x, hr => by simp only [RS] at hr ⊢; exact R.later (later_call h hi) _ _ hr
  | .agg _, x, hr => by simp only [RS] at hr ⊢; exact R.later (later_call h hi) _ _ hr
  | .tup _, x, hr => by simp only [RS] at hr ⊢; exact R.later (later_call h hi) _ _ hr
  | .lst _, x, hr => by simp only [RS] at hr ⊢; exact R.later (later_call h hi) _ _ hr
  | .nilp, x, hr => by simp only [RS] at hr ⊢; exact R.later (later_call h hi) _ _ hr
  | .ptr _ _, x, hr => by simp only [RS] at hr ⊢; exact R.later (later_call h hi) _ _ hr
  | .eref _ _, x, hr => by simp only [RS] at hr ⊢; exact R.later (later_call h hi) _ _ hr
  | .nilm, x, hr => by simp only [RS] at hr ⊢; exact R.later (later_call h hi) _ _ hr
  | .map _, x, hr => by simp only [RS] at hr ⊢; exact R.later (later_call h hi) _ _ hr
  | .fn _ _ _, x, hr => by simp only [RS] at hr ⊢; exact R.later (later_call h hi) _ _ hr
  | .nilf, x, hr => by simp only [RS] at hr ⊢; exact R.later (later_call h hi) _ _ hr
  | .iface _ _, x, hr => by simp only [RS] at hr ⊢; exact R.later (later_call h hi) _ _ hr
  | .nili, x, hr => by simp only [RS] at hr ⊢; exact R.later (later_call h hi) _ _ hr
  | .nils, x, hr => by simp only [RS] at hr ⊢; exact R.later (later_call h hi) _ _ hr
  | .emp, x, hr => by simp only [RS] at hr ⊢; exact R.later (later_call h hi) _ _ hr
  | .sli _ _ _ _, x, hr => by simp only [RS] at hr ⊢; exact R.later (later_call h hi) _ _ hr
  | .lrs _ _ _ _, x, hr => by simp only [RS] at hr ⊢; exact hr

theorem callV_sound {c : Call} {g : Prop} {id : FuncId} {vs : List V} {type : TypeId} (hf : FR E w st.fr a.tmps) (h : callV st.fr c = some (g, id, vs)) (hc : g) :
    ∃ xs : Array Value, (do let d ← resolve a.eval c type; invoke d.target d.args : Sem Next).run P w = (callFunc id xs).run P w ∧ RL E w vs xs.toList := by
  obtain ⟨cal, args, ts⟩ := c
  unfold callV at h
  split at h <;> try (simp at h; done)
  rename_i f hcal
  simp only at hcal; subst hcal
  split at h <;> simp at h
  rename_i g1 id' first cap g2 vs' h1 h2
  obtain ⟨e, rfl, rfl⟩ := h
  obtain ⟨k1, k2⟩ := e.2 hc
  have hx := opv_sound h1 k1 hf
  simp only [RO, R] at hx
  obtain ⟨xs, ys, hx, hl1, hl2⟩ := hx
  have hl3 := opvs_sound hf h2 k2
  refine ⟨xs ++ args.map a.eval ++ ys, ?_, ?_⟩
  · simp [resolve, Deferred.ofValue, hx, invoke]
  · have := RL.softR _ _ ((hl1.append hl3).append hl2)
    simpa using this

/-- A call. -/
theorem call_sound {o : Oper} {c : Call} {id : FuncId} {vs : List V} {xs : Array Value} {Post : V → Heap → Prop} (h : RSt E0 w0 n E w st a) (hd : ∀ d, o.dst = some d → d < n)
    (hs : Spec P id vs st.M Post) (hl : RL E w vs xs.toList) (hk : ∀ r M', Post r M' → K (setD { st with M := M' } o.dst r)) :
    o.upon P a (Nxt E0 w0 n K) Q ((callFunc id xs).run P w) := by
  obtain ⟨⟨fn, hfn, hname, hbody⟩, hcall⟩ := hs
  have hrun : (callFunc id xs).run P w = .ok (.enter id xs) w := by
    have h1 : fn.name ≠ "runtime.NumGoroutine" := by simpa using hname
    have h2 : fn.body ≠ none := by intro e; simp [e] at hbody
    simp [callFunc, hfn, h1, h2]
  rw [hrun, Oper.upon_enter]
  have hlat := later_callee E w
  refine (hcall (callee E) w xs (fun _ _ => rfl) (inv_callee h.inv) (RL.later hlat _ _ hl) (fun o ho hM => ?_) h.dom).mono fun e w' he => ?_
  · obtain ⟨b, hb, hr⟩ := h.heap o ho hM
    exact ⟨b, hb, hr.later hlat rfl⟩
  · obtain ⟨x, r, M', E', rfl, hp, hr, hm, hi, hdm⟩ := he
    refine ⟨back E E', setD { st with M := M' } o.dst r, ?_, hk r M' hp⟩
    have hb := later_back hi
    have h' : RSt E0 w0 n (back E E') w' { st with M := M' } a := by
      refine ⟨inv_call h.inv hi, fun t => RS.call h.inv hi (h.fr t), h.size, fun o ho hM => ?_, h.defers, h.gens, hdm⟩
      obtain ⟨b, hb', hr'⟩ := hm o ho hM
      exact ⟨b, hb', hr'.later hb rfl⟩
    exact h'.put hd (fun t => RS.of_RO (RO.of_R (R.later hb _ _ hr)))

theorem set_obj {b : Nat} {o o' : Obj} (h : w.heap[b]? = some o) : ({ w with heap := w.heap.setIfInBounds b o' } : World).heap[b]? = some o' ∧ Wr w { w with heap := w.heap.setIfInBounds b o' } b := by
  have hlt := lt_of_heap h
  refine ⟨by simp [hlt], by simp, fun k hk => ?_, rfl, rfl, rfl⟩
  simp only
  rw [Array.getElem?_setIfInBounds_ne (Ne.symm hk)]

/-- A heap object that is a map, or an iterator's block in a slot: written as a whole. -/
theorem heap_write {b ob : Nat} {w' : World} (h : RSt E0 w0 n E w st a) (hb : E.ob ob = some b) (hw : Wr w w' b) {ho : HObj} (hobj : ∀ (hl : Later E w E w'), objAt E w' ho b) : RSt E0 w0 n E w' { st with M := updH st.M ob ho } a := by
  have hown : E.own b := .inl ⟨ob, hb⟩
  have hlat := hw.later hown
  refine ⟨hw.inv h.inv (by
      rcases Nat.lt_or_ge b w0.heap.size with hlt | hge
      · exact .inr ⟨ob, h.inv.obn ob b hb hlt⟩
      · exact .inl hge), fun t => RS.wr hw hown (fun g2 e => h.inv.obbx _ _ _ _ hb e) (h.fr t), h.size, ?_, h.defers, h.gens, dom_upd h.dom _ _⟩
  intro o' ho' hM'
  simp only [updH] at hM'
  split at hM'
  · cases hM'; subst_vars
    exact ⟨b, hb, hobj hlat⟩
  · rename_i hne
    obtain ⟨b', hb', hr⟩ := h.heap o' ho' hM'
    exact ⟨b', hb', hr.later hlat (hw.other b' (fun e => hne (h.inv.obinj _ _ _ hb' (e ▸ hb))))⟩

theorem born_push {es : List MapEntry} {clock : Nat} (h : Born es clock) (k v : Value) : Born (es ++ [{ key := k, val := v, born := clock }]) (clock + 1) := by
  refine ⟨fun x hx => ?_, ?_⟩
  · rcases List.mem_append.1 hx with h1 | h1
    · have := h.1 x h1; omega
    · simp at h1; subst h1; simp
  · rw [List.map_append, List.nodup_append]
    refine ⟨h.2, by simp, fun a ha b hb => ?_⟩
    simp only [List.map_cons, List.map_nil, List.mem_singleton] at hb
    subst hb
    obtain ⟨x, hx, rfl⟩ := List.mem_map.1 ha
    have := h.1 x hx
    omega
theorem born_modify {es : List MapEntry} {clock : Nat} (h : Born es clock) (j : Nat) (k v : Value) : Born (es.modify j fun e => { e with key := k, val := v }) clock := by
  have hmap : (es.modify j fun e => { e with key := k, val := v }).map (·.born) = es.map (·.born) := by
    apply List.ext_getElem?
    intro i
    simp only [List.getElem?_map, List.getElem?_modify]
    split <;> cases es[i]? <;> rfl
  refine ⟨fun x hx => ?_, by rw [hmap]; exact h.2⟩
  have : x.born ∈ es.map (·.born) := by rw [← hmap]; exact List.mem_map.2 ⟨x, hx, rfl⟩
  obtain ⟨y, hy, e⟩ := List.mem_map.1 this
  have := h.1 y hy
  omega
theorem born_erase {es : List MapEntry} {clock : Nat} (h : Born es clock) (j : Nat) : Born (es.eraseIdx j) clock := by
  have hs : (es.eraseIdx j).Sublist es := List.eraseIdx_sublist es j
  exact ⟨fun x hx => h.1 x (hs.subset hx), (hs.map _).nodup h.2⟩

theorem RS_tup0 {E : Env} {w : World} (t : Nat) : RS E w t (.tup []) (.tuple #[]) := by
  simp only [RS, R]
  exact ⟨#[], rfl, by simp [RL]⟩

theorem partsV_len {fr : Nat → V} {sz : Nat} : ∀ {ps : List (Nat × Operand)} {k : Nat} {c : Prop} {es : List (List V)}, partsV fr sz k ps = some (c, es) → es.length = ps.length
  | [], k, c, es, h => by
    simp only [partsV, Option.some.injEq, Prod.mk.injEq] at h
    obtain ⟨_, rfl⟩ := h; rfl
  | (i, x) :: ps, k, c, es, h => by
    unfold partsV at h
    split at h <;> try (cases h; done)
    split at h <;> simp at h
    rename_i g v g' es' h1 h2
    obtain ⟨_, rfl⟩ := h
    simp [partsV_len h2]

theorem flat_len {α : Type} {sz : Nat} : ∀ {l : List (List α)}, (∀ e ∈ l, e.length = sz) → l.flatten.length = l.length * sz
  | [], _ => by simp
  | e :: l, h => by
    rw [List.flatten_cons, List.length_append, flat_len (fun e' h' => h e' (by simp [h'])), h e (by simp), List.length_cons, Nat.succ_mul]
    omega

theorem RL_any : ∀ (xs : List Value), RL E w (List.replicate xs.length .any) xs
  | [] => by simp [RL]
  | x :: xs => by
    simp only [List.length_cons, List.replicate_succ, RL]
    exact ⟨x, xs, rfl, by simp [R], RL_any xs⟩

/-- A slice that has grown: a new heap object. -/
theorem grow_own {o : Oper} (h : RSt E0 w0 n E w st a) (hd : ∀ d, o.dst = some d → d < n) {es xs : List (List V)} {T cap : Nat} {olds news : List Value} {z : Array Value} {e : TypeId}
    (ho : RL E w es.flatten olds) (hn : RL E w xs.flatten news) (h1 : ∀ e ∈ es, e.length = T) (h2 : ∀ e ∈ xs, e.length = T) (hz : z.size = T) (hge : es.length + xs.length ≤ cap) (hcm : cap ≤ maxLen)
    (hk : ∀ v' M', Own M' T v' (es ++ xs) → (∀ k, v'.obj = some k → none = some k ∨ st.M k = none) → (∀ k, v'.obj ≠ some k → M' k = st.M k) → K (setD { st with M := M' } o.dst v')) :
    Nxt E0 w0 n K (a.put o.dst (.slice (some ⟨w.heap.size, 0, none⟩) (es.length + xs.length) cap)) (w.drew.alloc (.cells (olds.toArray ++ news.toArray ++ Builtin.zeroCells z (cap - (es.length + xs.length))) e)) := by
  have hg0 : Grow E w E w.drew := ⟨⟨Nat.le_refl _, fun _ _ h => h, fun _ _ h => h, fun _ _ _ => rfl⟩, fun _ _ _ h => h, fun _ _ => rfl⟩
  have hst : RSt E0 w0 n E w.drew st a :=
    ⟨⟨h.inv.size, h.inv.obm, h.inv.obn, h.inv.bxn, h.inv.ex, h.inv.exlt, h.inv.keep, h.inv.os, h.inv.tape, h.inv.output, h.inv.oblt, h.inv.bxlt, h.inv.obinj, h.inv.bxinj, h.inv.obbx, h.inv.fin⟩, h.fr.grow hg0, h.size, h.heap.grow hg0, h.defers, h.gens, h.dom⟩
  obtain ⟨N, hN⟩ := hst.inv.fin
  have hnone := hN N (Nat.le_refl _)
  have hM : st.M N = none := by
    cases hM : st.M N with
    | none => rfl
    | some ho => obtain ⟨b, hb, _⟩ := hst.heap N ho hM; rw [hnone] at hb; cases hb
  have hg := grow_ob hst.inv hnone (.cells (olds.toArray ++ news.toArray ++ Builtin.zeroCells z (cap - (es.length + xs.length))) e)
  have f1 := flat_len h1
  have f2 := flat_len h2
  have hzl : (Builtin.zeroCells z (cap - (es.length + xs.length))).toList.length = (cap - (es.length + xs.length)) * T := by
    simp [size_zeroCells, hz]
  have hall : RL E w (es.flatten ++ xs.flatten ++ List.replicate ((cap - (es.length + xs.length)) * T) .any) (olds.toArray ++ news.toArray ++ Builtin.zeroCells z (cap - (es.length + xs.length))).toList := by
    have := (ho.append hn).append (RL_any (E := E) (w := w) (Builtin.zeroCells z (cap - (es.length + xs.length))).toList)
    rw [hzl] at this
    simpa using this
  have hst' : RSt E0 w0 n (newOb E N w.heap.size) (w.drew.alloc (.cells (olds.toArray ++ news.toArray ++ Builtin.zeroCells z (cap - (es.length + xs.length))) e)) { st with M := updH st.M N (.cells (es.flatten ++ xs.flatten ++ List.replicate ((cap - (es.length + xs.length)) * T) .any)) } a := by
    refine ⟨inv_ob hst.inv hnone _, hst.fr.grow hg, hst.size, ?_, hst.defers, hst.gens, dom_ob hst.dom _ _ _⟩
    intro o' ho' hM'
    simp only [updH] at hM'
    split at hM'
    · cases hM'; subst_vars
      exact ⟨w.heap.size, by simp [newOb], _, e, heap_new _, RL.later hg.later _ _ (RL.later hg0.later _ _ hall)⟩
    · obtain ⟨b, hb, hr⟩ := (hst.heap.grow hg) o' ho' hM'
      exact ⟨b, hb, hr⟩
  refine ⟨newOb E N w.heap.size, _, hst'.put hd (v := .sli N 0 (es.length + xs.length) cap) (fun t' => ?_), ?_⟩
  · simp only [RS, R]; exact ⟨w.heap.size, by simp [newOb], rfl, hge, hcm⟩
  · refine hk (.sli N 0 (es.length + xs.length) cap) (updH st.M N (.cells (es.flatten ++ xs.flatten ++ List.replicate ((cap - (es.length + xs.length)) * T) V.any))) ⟨?_, .inr (.inr ⟨N, cap, es.flatten ++ xs.flatten ++ List.replicate ((cap - (es.length + xs.length)) * T) V.any, by rw [List.length_append], if_pos rfl, by rw [List.length_append]; exact hge, ?_, ?_⟩)⟩ ?_ ?_
    · intro e' he'
      rcases List.mem_append.1 he' with h' | h'
      · exact h1 e' h'
      · exact h2 e' h'
    · simp only [List.length_append, List.length_replicate, f1, f2, ← Nat.add_mul]
      congr 1; omega
    · rw [List.length_append, List.flatten_append, Nat.add_mul]
      rw [List.take_append_of_le_length (by simp [f1, f2])]
      apply List.take_of_length_le
      simp [f1, f2]
    · intro k hk'
      simp only [V.obj, Option.some.injEq] at hk'
      subst hk'
      exact .inr hM
    · intro k hk'
      simp only [V.obj, ne_eq, Option.some.injEq] at hk'
      simp only [updH]
      rw [if_neg (fun e => hk' e.symm)]

theorem equalIn_nil (k : Nat) (t el : TypeId) (ad : Option Addr) (len cap : Nat) (hu : P.underlying t = some (.slice el)) : (Op.equalIn (k + 1) t (.slice ad len cap) (.slice none 0 0)).run P w = .ok ad.isNone w := by
  cases ad <;> simp [Op.equalIn, run_underlying hu]
theorem softEq_sound {o : Oper} {K : Bool → Prop} (hf : FR E w st.fr a.tmps) (hk : softEq P st.fr o.op K) :
    ∃ b, K b ∧ (execOp a.eval o).run P w = .ok (.value (.bool b)) w := by
  obtain ⟨dst, op, type, pos, after, guard⟩ := o
  simp only at hk
  unfold softEq at hk
  split at hk <;> try (exact hk.elim)
  rename_i t x y ty
  split at hk <;> try (exact hk.elim)
  rename_i el g es g' hu h1 h2
  obtain ⟨k1, k2, k3⟩ := hk
  have r1 := opv_sound h1 k1 hf
  have r2 := opv_sound h2 k2 hf
  simp only [RO, R] at r1 r2
  obtain ⟨ad, cap, e1, q1, q2, q3⟩ := r1
  have hg : (eqGuard .eql t x y (a.eval x) (a.eval y)).run P w = .ok () w :=
    guard_ok (.inl rfl) (by rw [e1]; intro h; cases h) (by rw [e1]; intro _ _ h; cases h)
  cases ad with
  | none =>
    refine ⟨true, k3 _ (fun hne => ?_), ?_⟩
    · rcases q3 with rfl | ⟨b, off, sz, h, _⟩
      · exact absurd rfl hne
      · cases h
    · have he : (Op.equal t (a.eval x) (a.eval y)).run P w = .ok true w := by
        rw [e1, r2]; exact equalIn_nil 9999 t el _ _ _ hu
      simp only [execOp, Sem.run_bind, hg, Result.andThen_ok]
      rw [e1, r2] at he ⊢
      simp [binOp, he]
  | some p =>
    refine ⟨false, k3 _ (fun _ => rfl), ?_⟩
    have he : (Op.equal t (a.eval x) (a.eval y)).run P w = .ok false w := by
      rw [e1, r2]; exact equalIn_nil 9999 t el _ _ _ hu
    simp only [execOp, Sem.run_bind, hg, Result.andThen_ok]
    rw [e1, r2] at he ⊢
    simp [binOp, he]

theorem opw_sound {o : Oper} (h : RSt E0 w0 n E w st a) (hd : ∀ d, o.dst = some d → d < n) (hk : opw P esc o K st) : o.wp P a w (Nxt E0 w0 n K) Q := by
  obtain ⟨dst, op, type, pos, after, guard⟩ := o
  unfold Oper.wp
  unfold opw at hk
  split at hk
  all_goals subst_vars
  · -- box
    rename_i t x
    split at hk <;> try (exact hk.elim)
    rename_i g v h1
    obtain ⟨k1, k2, k3⟩ := hk
    have hx := (opv_sound h1 k1 h.fr).of_tag (by omega)
    have := newVar_sound (ty := t) (arr := (a.eval x).cells) h hd k3 (R.cells' k2 hx)
    simp only [execOp, Instr.box, newVar, newRow, Sem.run_bind, run_newObj, Sem.run_pure, Result.andThen_ok, Oper.upon_value]
    exact this
  · -- alloc
    rename_i t
    split at hk <;> try (exact hk.elim)
    rename_i z hz
    obtain ⟨x, hx, hr⟩ := zeroV_sound (P := P) (E := E) (w := w) hz
    have hzt : z ≠ .any := by
      intro e; subst e
      unfold zeroV at hz
      split at hz
      · split at hz
        · split at hz <;> simp at hz
        · unfold constV at hz; split at hz <;> simp at hz
        · simp at hz
      · simp at hz
    have := newVar_sound (ty := t) (arr := x.cells) h hd hk (R.cells hzt hr)
    simp only [execOp, Instr.alloc, newVar, newRow, Sem.run_bind, hx, run_newObj, Sem.run_pure, Result.andThen_ok, Oper.upon_value]
    exact this
  · -- store
    rename_i t ad x
    split at hk <;> try (exact hk.elim)
    rename_i T g av g' v ht h1 h2
    split at hk <;> try (exact hk.elim)
    rename_i g'' st' hs
    obtain ⟨k1, k2, k3, k4, k5, k6, k7⟩ := hk
    have hx := (opv_sound h2 k2 h.fr).of_tag (by omega)
    obtain ⟨b, off, w', he, hrun, hst⟩ := storeTo_sound (P := P) (o := ⟨dst, .store t ad x, type, pos, after, guard⟩) h hs k3 (opv_sound h1 k1 h.fr) (R.cells' k5 hx) k6
    have hlen := (R.cells' k5 hx).length
    simp at hlen
    have : (Instr.storeAt t (a.eval ad) (a.eval x)).run P w = .ok () w' := by
      have hsz : (a.eval x).cells.size = T.size := by omega
      simp [Instr.storeAt, he, Instr.sureAddr, storeVar, run_sizeOf ht, hsz, hrun]
    simp only [execOp, Sem.run_bind, this, Result.andThen_ok, Sem.run_pure, Oper.upon_skip]
    exact ⟨E, _, hst.put hd RS_tupnil, k7⟩
  · -- mapUpdate
    rename_i t m k x
    split at hk <;> try (exact hk.elim)
    rename_i kt et g ob g' kv g'' v hu h1 h2 h3
    split at hk <;> try (exact hk.elim)
    rename_i d kvs hd' hM
    split at hk <;> try (exact hk.elim)
    rename_i r hr
    obtain ⟨k1, k2, k3, k4, k5, k6⟩ := hk
    have hm := opv_sound h1 k1 h.fr
    simp only [RO, R] at hm
    obtain ⟨b, hb, hm⟩ := hm
    have hkey := (opv_sound h2 k2 h.fr).toR (by cases kv <;> first | rfl | (cases d <;> simp [keyKind] at k4))
    have hv := (opv_sound h3 k3 h.fr).of_tag (by omega)
    obtain ⟨b', hb', es, clock, hh, hkv, hbo⟩ := h.heap ob _ hM
    rw [hb] at hb'; cases hb'
    have hck := checkKey_ok (P := P) (w := w) hd' k4 hkey false
    have hget : (getObj b).run P w = .ok (.map es clock) w := by simp [getObj, Sem.run, hh]
    have hset : ∀ o', (setObj b o').run P w = .ok () { w with heap := w.heap.setIfInBounds b o' } := fun o' => by simp [setObj, Sem.run, hh]
    rcases mem_setKV k4 hkey hv kvs r es.toList 0 hr hkv with ⟨g1, g2⟩ | ⟨j, z, g1, g2, g3, g4⟩
    · have hfk : (Instr.findKey kt (a.eval k) es.toList).run P w = .ok none w := by simp [Instr.findKey, run_underlying hd', g1]
      have hrun : (Instr.mapUpdate t (a.eval m) (a.eval k) (a.eval x)).run P w = .ok () { w with heap := w.heap.setIfInBounds b (.map (es.push { key := a.eval k, val := a.eval x, born := clock }) (clock + 1)) } := by
        simp [Instr.mapUpdate, run_underlying hu, hm, hget, hck, hfk, hset]
      simp only [execOp, Sem.run_bind, hrun, Result.andThen_ok, Sem.run_pure, Oper.upon_skip]
      obtain ⟨w1, w2⟩ := set_obj (w := w) (o' := .map (es.push { key := a.eval k, val := a.eval x, born := clock }) (clock + 1)) hh
      exact ⟨E, _, (heap_write h hb w2 (ho := .map r) (fun hl => ⟨_, _, w1, RKV.later hl (by simpa using g2 clock), by simpa using born_push hbo _ _⟩)).put hd RS_tupnil, k6⟩
    · simp only [Nat.zero_add] at g1
      have hfk : (Instr.findKey kt (a.eval k) es.toList).run P w = .ok (some (j, z)) w := by simp [Instr.findKey, run_underlying hd', g1]
      simp at g2
      have hej : es[j]? = some es[j] := by simp [g2]
      have hstay : (Instr.keyThatStays (((es[j]?).map (·.key)).getD (a.eval k)) (a.eval k)).run P w = .ok (a.eval k) w := by
        have : Instr.sameBits 10000 (((es[j]?).map (·.key)).getD (a.eval k)) (a.eval k) = true := by simpa using g3
        unfold Instr.keyThatStays
        rw [if_pos this]; rfl
      have hrun : (Instr.mapUpdate t (a.eval m) (a.eval k) (a.eval x)).run P w = .ok () { w with heap := w.heap.setIfInBounds b (.map (es.modify j fun e => { e with key := a.eval k, val := a.eval x }) clock) } := by
        simp only [Instr.mapUpdate, Sem.run_bind, run_underlying hu, Result.andThen_ok, hm, hget, hck, hfk, hstay, hset]
      simp only [execOp, Sem.run_bind, hrun, Result.andThen_ok, Sem.run_pure, Oper.upon_skip]
      obtain ⟨w1, w2⟩ := set_obj (w := w) (o' := .map (es.modify j fun e => { e with key := a.eval k, val := a.eval x }) clock) hh
      exact ⟨E, _, (heap_write h hb w2 (ho := .map r) (fun hl => ⟨_, _, w1, RKV.later hl (by simpa using g4), by simpa using born_modify hbo _ _ _⟩)).put hd RS_tupnil, k6⟩
  · -- makeMap
    rename_i t
    split at hk <;> try (exact hk.elim)
    rename_i d hdst
    simp only at hdst; subst hdst
    obtain ⟨N, hN⟩ := h.inv.fin
    have hnone := hN N (Nat.le_refl _)
    have hM : st.M N = none := by
      cases hM : st.M N with
      | none => rfl
      | some ho => obtain ⟨b, hb, _⟩ := h.heap N ho hM; rw [hnone] at hb; cases hb
    have hg := grow_ob h.inv hnone (.map #[] 0)
    have hrun : (execOp a.eval ⟨some d, .makeMap t none, type, pos, after, guard⟩).run P w = .ok (.value (.map (some w.heap.size))) (w.alloc (.map #[] 0)) := by
      simp [execOp, Instr.makeMap]
    rw [hrun, Oper.upon_value]
    refine ⟨newOb E N w.heap.size, _, upd_dst h (hd d rfl) hg (inv_ob h.inv hnone _) (v := .map N) ?_ (M' := updH st.M N (.map [])) ?_ h.gens (dom_ob h.dom _ _ _), hk N hM⟩
    · simp only [RS, R]; exact ⟨w.heap.size, by simp [newOb], rfl⟩
    · intro o' ho hM'
      simp only [updH] at hM'
      split at hM'
      · cases hM'; subst_vars
        exact ⟨w.heap.size, by simp [newOb], #[], 0, heap_new _, by simp [RKV], by simp [Born]⟩
      · obtain ⟨b, hb, hr⟩ := (h.heap.grow hg) o' ho hM'
        exact ⟨b, hb, hr⟩
  · -- range
    rename_i t x
    split at hk <;> try (exact hk.elim)
    rename_i g s d hu h1 hdst
    simp only at hdst; subst hdst
    obtain ⟨k1, k2⟩ := hk
    have hx := opv_sound h1 k1 h.fr
    simp only [RO, R] at hx
    obtain ⟨hx, hl⟩ := hx
    have hnone := h.gens d (st.gen d) (Nat.le_refl _)
    have hg := grow_box h.inv hnone (.stringIter ⟨⟨s⟩⟩ 0)
    have hrun : (execOp a.eval ⟨some d, .range t x, type, pos, after, guard⟩).run P w = .ok (.value (.pointer (some ⟨w.heap.size, 0, none⟩))) (w.alloc (.stringIter ⟨⟨s⟩⟩ 0)) := by
      simp [execOp, Instr.range, run_underlying hu, hx]
    rw [hrun, Oper.upon_value]
    refine ⟨newBox E d (st.gen d) w.heap.size, _, upd_dst h (hd d rfl) hg (inv_box h.inv hnone _) (v := .itr (st.gen d) s 0) ?_ (M' := st.M) (h.heap.grow hg) (gens_box h d) h.dom, k2⟩
    simp only [RS]
    exact ⟨w.heap.size, by simp [newBox], rfl, heap_new _, hl⟩
  · -- next
    rename_i t
    split at hk <;> try (exact hk.elim)
    rename_i g s p hfr
    obtain ⟨k1, k2⟩ := hk
    have hsl := h.fr t
    rw [hfr] at hsl
    simp only [RS] at hsl
    obtain ⟨b, hb, hx, hh, hl⟩ := hsl
    have hx' : a.eval (.tmp t) = .pointer (some ⟨b, 0, none⟩) := hx
    have hsz : (⟨⟨s⟩⟩ : ByteArray).size = s.length := rfl
    have hget : (getObj b).run P w = .ok (.stringIter ⟨⟨s⟩⟩ p) w := by simp [getObj, Sem.run, hh]
    by_cases hlt : p < s.length
    · have hset : ∀ o', (setObj b o').run P w = .ok () { w with heap := w.heap.setIfInBounds b o' } := fun o' => by simp [setObj, Sem.run, hh]
      have hrun : (execOp a.eval ⟨dst, .next (.tmp t) true, type, pos, after, guard⟩).run P w = .ok (.value (.tuple #[.bool true, goInt p, .int .i32 (Utf8.decode ⟨⟨s⟩⟩ p).1])) { w with heap := w.heap.setIfInBounds b (.stringIter ⟨⟨s⟩⟩ (p + (Utf8.decode ⟨⟨s⟩⟩ p).2)) } := by
        simp only [execOp, hx', Instr.next, Sem.run_bind, hget, Result.andThen_ok, hsz, if_pos hlt, hset, Sem.run_pure]
      rw [hrun, Oper.upon_value]
      obtain ⟨w1, w2⟩ := set_obj (w := w) (o' := .stringIter ⟨⟨s⟩⟩ (p + (Utf8.decode ⟨⟨s⟩⟩ p).2)) hh
      have hown : E.own b := .inr (.inl ⟨t, g, hb⟩)
      have hlat := w2.later hown
      have h' : RSt E0 w0 n E { w with heap := w.heap.setIfInBounds b (.stringIter ⟨⟨s⟩⟩ (p + (Utf8.decode ⟨⟨s⟩⟩ p).2)) } { st with fr := upd st.fr t (.itr g s (p + (Utf8.decode ⟨⟨s⟩⟩ p).2)) } a := by
        refine ⟨w2.inv h.inv (.inl (h.inv.bxn t g b hb)), fun t' => ?_, h.size, fun o' ho' hM' => ?_, h.defers, h.gens, h.dom⟩
        · simp only [upd]
          by_cases ht : t' = t
          · subst ht
            simp only [if_true, RS]
            exact ⟨b, hb, hx, w1, hl⟩
          · rw [if_neg ht]
            exact RS.wr w2 hown (fun g2 e => ht (h.inv.bxinj _ _ _ _ _ e hb).1) (h.fr t')
        · obtain ⟨b', hb', hr⟩ := h.heap o' ho' hM'
          exact ⟨b', hb', hr.later hlat (w2.other b' (fun e => h.inv.obbx _ _ _ _ hb' (e ▸ hb)))⟩
      refine ⟨E, _, h'.put hd (v := .tup [.bool true, .int .i64 p, .int .i32 (Utf8.decode ⟨⟨s⟩⟩ p).1]) (fun t' => ?_), k1 hlt⟩
      simp only [RS, R, goInt]
      exact ⟨_, rfl, by simp [RL, R]⟩
    · have hrun : (execOp a.eval ⟨dst, .next (.tmp t) true, type, pos, after, guard⟩).run P w = .ok (.value (.tuple #[.bool false])) w := by
        simp only [execOp, hx', Instr.next, Sem.run_bind, hget, Result.andThen_ok, hsz, if_neg hlt, Sem.run_pure]
      rw [hrun, Oper.upon_value]
      refine ⟨E, _, h.put hd (v := .tup [.bool false]) (fun t' => ?_), k2 (by omega)⟩
      simp only [RS, R]
      exact ⟨_, rfl, by simp [RL, R]⟩
  · -- buildSlice
    rename_i t len ps
    split at hk <;> try (exact hk.elim)
    rename_i e hu
    split at hk <;> try (exact hk.elim)
    rename_i T d hT hdst
    simp only at hdst; subst hdst
    split at hk <;> try (exact hk.elim)
    rename_i g es hp
    obtain ⟨k1, k2, k3, k4, ⟨z, hz, hzl⟩, k5⟩ := hk
    obtain ⟨x, hx, hrx⟩ := zeroV_sound (P := P) (E := E) (w := w) hz
    have hzt : z ≠ .any := by
      intro e; subst e
      unfold zeroV at hz
      split at hz
      · split at hz
        · split at hz <;> simp at hz
        · unfold constV at hz; split at hz <;> simp at hz
        · simp at hz
      · simp at hz
    have hxl := (R.cells hzt hrx).length
    simp at hxl
    obtain ⟨out, xs, g1, g2, g3, g4, g5, g6⟩ := partsV_sound (w := w) h.fr ps.toList 0 ((Array.range (len * T.size)).map (x.cells[· % x.cells.size]!)) g es hp k1 (by
      simp only [Nat.zero_add, Array.size_map, Array.size_range]
      rw [← k3]
      have := (partsV_len hp)
      rw [this]; exact Nat.le_refl _)
    have hpl : ps.toList.length = len := by rw [← k3]; exact (partsV_len hp).symm
    have hout : out.toList = xs := by
      rw [g3, hpl]
      simp
    have hrl : RL E w es.flatten out.toList := by rw [hout]; exact g2
    have hrun : (execOp a.eval ⟨some d, .buildSlice t len ps, type, pos, after, guard⟩).run P w = .ok (.value (.slice (some ⟨w.heap.size, 0, none⟩) len len)) (w.alloc (.cells out e)) := by
      have h16 : ¬ (16777216 < len * T.size) := by omega
      have hfill : Instr.fill (fun i => some (i * T.size, T.size)) ((Array.range (len * T.size)).map (x.cells[· % x.cells.size]!)) (ps.toList.map fun p => (p.1, a.eval p.2)) = some out := g1
      have hfill' : Instr.fill (fun i => some (i * T.size, T.size)) ((Array.range (len * T.size)).map ((if len * T.size = 0 then #[] else x.cells)[· % (if len * T.size = 0 then #[] else x.cells).size]!)) (ps.toList.map fun p => (p.1, a.eval p.2)) = some out := by
        by_cases h0 : len * T.size = 0
        · rw [h0] at hfill ⊢
          have e0 : Array.range 0 = #[] := rfl
          rw [e0] at hfill ⊢
          simpa using hfill
        · simp only [if_neg h0]; exact hfill
      have hl : (ps.map fun p => (p.1, a.eval p.2)).toList = ps.toList.map fun p => (p.1, a.eval p.2) := by simp
      by_cases h0 : len * T.size = 0
      · simp only [if_pos h0] at hfill'
        simp only [execOp, Instr.buildSlice, Sem.run_bind, run_underlying hu, Result.andThen_ok, run_sizeOf hT, if_neg h16, if_pos h0, Sem.run_pure]
        rw [hl, hfill']
        simp [newRow]
      · simp only [if_neg h0] at hfill'
        simp only [execOp, Instr.buildSlice, Sem.run_bind, run_underlying hu, Result.andThen_ok, run_sizeOf hT, if_neg h16, if_neg h0, Sem.run_pure, hx]
        rw [hl, hfill']
        simp [newRow]
    rw [hrun, Oper.upon_value]
    have hdn := hd d rfl
    by_cases he : esc d = true
    · rw [if_pos he] at k5
      obtain ⟨N, hN⟩ := h.inv.fin
      have hnone := hN N (Nat.le_refl _)
      have hM : st.M N = none := by
        cases hM : st.M N with
        | none => rfl
        | some ho => obtain ⟨b, hb, _⟩ := h.heap N ho hM; rw [hnone] at hb; cases hb
      have hg := grow_ob h.inv hnone (.cells out e)
      refine ⟨newOb E N w.heap.size, _, upd_dst h hdn hg (inv_ob h.inv hnone _) (v := .sli N 0 len len) ?_ (M' := updH st.M N (.cells es.flatten)) ?_ h.gens (dom_ob h.dom _ _ _), k5 N hM⟩
      · simp only [RS, R]
        refine ⟨w.heap.size, by simp [newOb], rfl, Nat.le_refl _, ?_⟩
        have : len * 1 ≤ len * T.size := Nat.mul_le_mul_left _ k2
        simp only [maxLen]; omega
      · intro o' ho hM'
        simp only [updH] at hM'
        split at hM'
        · cases hM'; subst_vars
          exact ⟨w.heap.size, by simp [newOb], out, e, heap_new _, RL.later hg.later _ _ hrl⟩
        · obtain ⟨b, hb, hr⟩ := (h.heap.grow hg) o' ho hM'
          exact ⟨b, hb, hr⟩
    · rw [if_neg he] at k5
      have hg := grow_alloc E w (.cells out e)
      refine ⟨E, _, upd_dst h hdn hg (inv_alloc h.inv _) (v := .lst es) ?_ (M' := st.M) (h.heap.grow hg) h.gens h.dom, k5⟩
      simp only [RS, R]
      refine ⟨_, len, by rw [k3], by rw [k3]; exact Nat.le_refl _, ?_, ?_⟩
      · have : len * 1 ≤ len * T.size := Nat.mul_le_mul_left _ k2
        simp only [maxLen]; omega
      · right
        refine ⟨w.heap.size, 0, T.size, rfl, by simp, h.inv.exown (Nat.le_refl _), RE.of_flat g4 ?_⟩
        exact RL.mem (heap_new _) (by simpa using RL.later hg.later _ _ hrl)
  · -- append
    rename_i args ts
    split at hk <;> try (exact hk.elim)
    rename_i s x t u hargs hts
    split at hk <;> try (exact hk.elim)
    rename_i e g sv g' xv hu h1 h2
    split at hk <;> try (exact hk.elim)
    rename_i T i g'' xs hT hi hrd
    obtain ⟨rfl, k1, k2, k3, k4, ⟨z, hz, hzs⟩, k5, es, hown, k6, k7, k8⟩ := hk
    have hTs : P.cellsOf e = T.size ∧ i.size = T.size := by
      obtain ⟨i', hi', hs'⟩ := ti_info hT
      rw [hi] at hi'; cases hi'
      exact ⟨by simp [Program.cellsOf, hi, hs'], hs'⟩
    rw [hTs.1] at hrd
    have hsv := opv_sound h1 k1 h.fr
    obtain ⟨news, n1, n2, n3⟩ := readSl_sound (P := P) h hrd k3 k4 (opv_sound h2 k2 h.fr)
    have hnl : news.length = xs.length * T.size := by rw [← n1.length]; exact flat_len n2
    have hone : ∀ c ∈ news, c.oneCell' = true := RL.one (vs := xs.flatten) (fun c hc => by
      obtain ⟨e', he', hc'⟩ := List.mem_flatten.1 hc
      exact k5 e' he' c hc') n1
    have hex : ∀ r w', (Builtin.append_ #[t, t] type #[a.eval s, a.eval x]).run P w = .ok r w' → (execOp a.eval ⟨dst, .call ⟨.builtin .append, args, ts⟩, type, pos, after, guard⟩).run P w = .ok (.value r) w' := by
      intro r w' hr
      have ha : args = #[s, x] := by rw [← Array.toArray_toList (xs := args), hargs]
      have hb : ts = #[t, t] := by rw [← Array.toArray_toList (xs := ts), hts]
      subst ha; subst hb
      simp [execOp, resolve, invoke, builtin, hr]
    obtain ⟨o1, o2⟩ := hown
    have hflat := flat_len o1
    have hcap := k6
    simp only [maxLen] at k6
    rcases o2 with ⟨rfl, rfl⟩ | ⟨rfl, rfl⟩ | ⟨ob, cap, cs, rfl, hM, hle, hcl, htk⟩
    · simp only [RO, R] at hsv
      simp only [List.length_nil, Nat.zero_add] at k6 k7 hcap
      by_cases hx0 : xs = []
      · subst hx0
        have hs0 : Src P w i.size (a.eval x) 0 news := by rw [hTs.2]; exact n3
        rw [hex _ _ (by rw [hsv]; exact append_stay hu hi hs0), Oper.upon_value]
        refine ⟨E, _, h.put hd (v := .nils) (fun t' => by simp only [RS, R]), ?_⟩
        exact k8 .nils st.M ⟨by simp, .inl ⟨rfl, rfl⟩⟩ (fun k hk => by cases hk) (fun k _ => rfl)
      · have hpos : 0 < xs.length := List.length_pos_iff.2 hx0
        have hrun := append_grow (P := P) (w := w) (ty := type) hu hi hz (base := none) (len := 0) (cap := 0) (olds := []) (fun w' _ => by simp [Builtin.firstCells]) (y := a.eval x) (m := xs.length) (news := news) (by rw [hTs.2]; exact n3) (by omega) (by omega) (by simpa using k7)
        simp only [Nat.zero_add] at hrun
        rw [hex _ _ (by rw [hsv]; exact hrun), Oper.upon_value]
        have hge := grownCap_ge w xs.length 0 e
        have hcm := grownCap_le_maxLen w xs.length 0 e hcap
        have hfin := grow_own (e := e) h hd (es := []) (xs := xs) (T := T.size) (olds := []) (news := news) (z := z.cells) (cap := grownCap w xs.length 0 e) (by simp [RL]) n1 (by simp) n2 hzs (by simpa using hge) hcm k8
        simp only [List.length_nil, Nat.zero_add] at hfin
        exact hfin
    · simp only [RO, R] at hsv
      obtain ⟨ad0, hsv⟩ := hsv
      simp only [List.length_nil, Nat.zero_add] at k6 k7 hcap
      by_cases hx0 : xs = []
      · subst hx0
        have hn0 : news = [] := List.eq_nil_of_length_eq_zero (by simpa using hnl)
        subst hn0
        have hs0 : Src P w i.size (a.eval x) 0 [] := by rw [hTs.2]; exact n3
        rw [hex _ _ (by rw [hsv]; exact append_stay_emp hu hi hs0), Oper.upon_value]
        refine ⟨E, _, h.put hd (v := .emp) (fun t' => by simp only [RS, R]; exact ⟨ad0, rfl⟩), ?_⟩
        exact k8 .emp st.M ⟨by simp, .inr (.inl ⟨rfl, rfl⟩)⟩ (fun k hk => by cases hk) (fun k _ => rfl)
      · have hpos : 0 < xs.length := List.length_pos_iff.2 hx0
        have hrun := append_grow (P := P) (w := w) (ty := type) hu hi hz (base := ad0) (len := 0) (cap := 0) (olds := []) (fun w' _ => by cases ad0 <;> simp [Builtin.firstCells, loadCells, loadCellsFrom]) (y := a.eval x) (m := xs.length) (news := news) (by rw [hTs.2]; exact n3) (by omega) (by omega) (by simpa using k7)
        simp only [Nat.zero_add] at hrun
        rw [hex _ _ (by rw [hsv]; exact hrun), Oper.upon_value]
        have hge := grownCap_ge w xs.length 0 e
        have hcm := grownCap_le_maxLen w xs.length 0 e hcap
        have hfin := grow_own (e := e) h hd (es := []) (xs := xs) (T := T.size) (olds := []) (news := news) (z := z.cells) (cap := grownCap w xs.length 0 e) (by simp [RL]) n1 (by simp) n2 hzs (by simpa using hge) hcm k8
        simp only [List.length_nil, Nat.zero_add] at hfin
        exact hfin
    · simp only [RO, R] at hsv
      obtain ⟨b, hb, hsv, hle', hmax⟩ := hsv
      obtain ⟨b', hb', arr, bt, hh, hcs⟩ := h.heap ob _ hM
      rw [hb] at hb'; cases hb'
      have hcsl := hcs.length
      simp at hcsl
      by_cases hroom : es.length + xs.length ≤ cap
      · have hfit : es.length * i.size + news.length ≤ arr.size := by
          rw [hTs.2, hnl, ← Nat.add_mul, ← hcsl, hcl]; exact Nat.mul_le_mul_right _ hroom
        obtain ⟨w', arr', r1, r2, r3, r4⟩ := append_room (P := P) (ty := type) hu hi hh (y := a.eval x) (news := news) (m := xs.length) (len := es.length) (cap := cap) (by rw [hTs.2]; exact n3) hone hroom hfit
        rw [hex _ _ (by rw [hsv]; exact r1), Oper.upon_value]
        have hlat := r4.later (E := E) (.inl ⟨ob, hb⟩)
        have hst := heap_write h hb r4 (ho := .cells (splice cs (es.length * T.size) xs.flatten)) (fun hl => ⟨arr', bt, r2, by
          rw [r3]
          unfold splice
          have : xs.flatten.length = news.length := n1.length
          rw [hTs.2, this]
          exact ((RL.later hl _ _ (hcs.take _)).append (RL.later hl _ _ n1)).append (RL.later hl _ _ (hcs.drop _))⟩)
        refine ⟨E, _, hst.put hd (v := .sli ob 0 (es.length + xs.length) cap) (fun t' => ?_), ?_⟩
        · simp only [RS, R]; exact ⟨b, hb, rfl, hroom, hmax⟩
        · have hfl := flat_len n2
          have hfit2 : es.length * T.size + xs.length * T.size ≤ cs.length := by rw [hcl, ← Nat.add_mul]; exact Nat.mul_le_mul_right _ hroom
          refine k8 (.sli ob 0 (es.length + xs.length) cap) (updH st.M ob (.cells (splice cs (es.length * T.size) xs.flatten))) ⟨?_, .inr (.inr ⟨ob, cap, splice cs (es.length * T.size) xs.flatten, by rw [List.length_append], if_pos rfl, by rw [List.length_append]; exact hroom, ?_, ?_⟩)⟩ ?_ ?_
          · intro e' he'
            rcases List.mem_append.1 he' with h' | h'
            · exact o1 e' h'
            · exact n2 e' h'
          · simp only [splice, List.length_append, List.length_take, List.length_drop, hfl]
            rw [hcl] at hfit2 ⊢
            omega
          · rw [List.length_append, List.flatten_append, ← htk]
            unfold splice
            rw [Nat.add_mul, List.take_append_of_le_length (by simp [hfl]; omega)]
            apply List.take_of_length_le
            simp [hfl]; omega
          · intro k hk; simp only [V.obj, Option.some.injEq] at hk ⊢; exact .inl hk
          · intro k hk
            simp only [V.obj, ne_eq, Option.some.injEq] at hk
            simp only [updH]
            rw [if_neg (fun e => hk e.symm)]
      · have holds : ∀ w' : World, w'.heap = w.heap → (Builtin.firstCells i.size es.length (.slice (some ⟨b, 0, none⟩) es.length cap)).run P w' = .ok (arr.toList.take (es.length * T.size)).toArray w' := by
          intro w' hw'
          refine run_firstCells_some (P := P) w' i.size es.length ⟨b, 0, none⟩ es.length cap _ ?_ ?_
          · rw [hTs.2]
            have hl0 : (arr.toList.take (es.length * T.size)).length = min (es.length * T.size) arr.size := by simp
            rw [hl0, ← hcsl, hcl]
            exact Nat.min_eq_left (Nat.mul_le_mul_right _ hle)
          · intro j u hj
            rw [addr_add]
            have hj' : arr[j]? = some u := by
              rw [List.getElem?_take] at hj
              split at hj
              · simpa using hj
              · cases hj
            simp [World.cell?, hw', hh, hj']
        have hrun := append_grow (P := P) (w := w) (ty := type) hu hi hz (base := some ⟨b, 0, none⟩) (len := es.length) (cap := cap) holds (y := a.eval x) (m := xs.length) (news := news) (by rw [hTs.2]; exact n3) (by omega) (by omega) k7
        rw [hex _ _ (by rw [hsv]; exact hrun), Oper.upon_value]
        have hge := grownCap_ge w (es.length + xs.length) cap e
        have hcm := grownCap_le_maxLen w (es.length + xs.length) cap e hcap
        refine grow_own h hd (es := es) (xs := xs) (T := T.size) (olds := arr.toList.take (es.length * T.size)) (news := news) (z := z.cells) (cap := grownCap w (es.length + xs.length) cap e) ?_ n1 o1 n2 hzs hge hcm ?_
        · rw [← htk]; exact hcs.take _
        · intro v' M' q1 q2 q3
          exact k8 v' M' q1 (fun k hk => .inr ((q2 k hk).elim (fun q => by cases q) id)) q3
  · -- delete
    rename_i args ts
    split at hk <;> try (exact hk.elim)
    rename_i m k t u hargs hts
    split at hk <;> try (exact hk.elim)
    rename_i kt et g ob g' kv hu h1 h2
    split at hk <;> try (exact hk.elim)
    rename_i d kvs hd' hM
    split at hk <;> try (exact hk.elim)
    rename_i r hr
    obtain ⟨k1, k2, k3, k4⟩ := hk
    have hm := opv_sound h1 k1 h.fr
    simp only [RO, R] at hm
    obtain ⟨b, hb, hm⟩ := hm
    have hkey := (opv_sound h2 k2 h.fr).toR (by cases kv <;> first | rfl | (cases d <;> simp [keyKind] at k3))
    obtain ⟨b', hb', es, clock, hh, hkv, hbo⟩ := h.heap ob _ hM
    rw [hb] at hb'; cases hb'
    have hck : (Instr.checkKey es.isEmpty 10000 kt (a.eval k)).run P w = .ok () w := checkKey_ok (P := P) (w := w) hd' k3 hkey es.isEmpty
    have hget : (getObj b).run P w = .ok (.map es clock) w := by simp [getObj, Sem.run, hh]
    have hset : ∀ o', (setObj b o').run P w = .ok () { w with heap := w.heap.setIfInBounds b o' } := fun o' => by simp [setObj, Sem.run, hh]
    have ha : args = #[m, k] := by rw [← Array.toArray_toList (xs := args), hargs]
    have hb2 : ts = #[t, u] := by rw [← Array.toArray_toList (xs := ts), hts]
    subst ha; subst hb2
    rcases mem_delKV k3 hkey kvs r es.toList 0 hr hkv with ⟨g1, g2⟩ | ⟨j, z, g1, g2, g3⟩
    · have hfk : (Instr.findKey kt (a.eval k) es.toList).run P w = .ok none w := by simp [Instr.findKey, run_underlying hd', g1]
      have hrun : (execOp a.eval ⟨dst, .call ⟨.builtin .delete, #[m, k], #[t, u]⟩, type, pos, after, guard⟩).run P w = .ok (.value (.tuple #[])) { w with heap := w.heap.setIfInBounds b (.map es clock) } := by
        simp [execOp, resolve, invoke, builtin, Builtin.delete_, run_underlying hu, hm, hget, hck, hfk, hset]
      rw [hrun, Oper.upon_value]
      obtain ⟨w1, w2⟩ := set_obj (w := w) (o' := .map es clock) hh
      exact ⟨E, _, (heap_write h hb w2 (ho := .map r) (fun hl => ⟨_, _, w1, RKV.later hl g2, hbo⟩)).put hd RS_tup0, k4⟩
    · simp only [Nat.zero_add] at g1
      have hfk : (Instr.findKey kt (a.eval k) es.toList).run P w = .ok (some (j, z)) w := by simp [Instr.findKey, run_underlying hd', g1]
      have hrun : (execOp a.eval ⟨dst, .call ⟨.builtin .delete, #[m, k], #[t, u]⟩, type, pos, after, guard⟩).run P w = .ok (.value (.tuple #[])) { w with heap := w.heap.setIfInBounds b (.map (es.eraseIdxIfInBounds j) clock) } := by
        simp [execOp, resolve, invoke, builtin, Builtin.delete_, run_underlying hu, hm, hget, hck, hfk, hset]
      rw [hrun, Oper.upon_value]
      obtain ⟨w1, w2⟩ := set_obj (w := w) (o' := .map (es.eraseIdxIfInBounds j) clock) hh
      exact ⟨E, _, (heap_write h hb w2 (ho := .map r) (fun hl => ⟨_, _, w1, RKV.later hl (by simpa using g3), by simpa using born_erase hbo _⟩)).put hd RS_tup0, k4⟩
  · -- call
    rename_i f args ts
    split at hk <;> try (exact hk.elim)
    rename_i g id vs h1
    obtain ⟨k1, Post, k2, k3⟩ := hk
    obtain ⟨xs, hrun, hl⟩ := callV_sound (P := P) (w := w) (type := type) h.fr h1 k1
    simp only [execOp]
    rw [hrun]
    exact call_sound (o := ⟨dst, .call ⟨.value f, args, ts⟩, type, pos, after, guard⟩) (c := ⟨.value f, args, ts⟩) h hd k2 hl k3
  · -- the rest
    rename_i op' _ _ _ _ _ _ _ _ _ _ _
    split at hk
    · rename_i g v h1
      obtain ⟨x, hx, hr⟩ := evalQ_sound (o := ⟨dst, op, type, pos, after, guard⟩) h1 hk.1 h.fr h.heap
      rw [hx, Oper.upon_value]
      exact ⟨E, _, h.put hd (fun t => RS.of_RO hr), hk.2⟩
    · obtain ⟨b, hb, hx⟩ := softEq_sound (o := ⟨dst, op, type, pos, after, guard⟩) h.fr hk
      rw [hx, Oper.upon_value]
      exact ⟨E, _, h.put hd (fun t => RS.of_RO (.of_R (by simp only [R]))), hb⟩
end
end Go.Eng

/- The engine, part 10: guards; regions in the order of the text; regions that draw their order. -/
namespace Go.Eng
set_option linter.unusedSimpArgs false
set_option linter.unusedVariables false

/-- Was an operation wanted, told by what another one yielded? -/
def guardB (want : Bool) : V → Option Bool
  | .bool b => some (b == want)
  | .when c v => match guardB want v with
    | some b => some (c && b)
    | none => none
  | .tup [] => some false
  | _ => none

def guardOf (ops : Array Oper) (fr : Nat → V) : Nat × Bool → Option Bool
  | (j, want) =>
    match ops[j]? with
    | some o => match o.dst with
      | some d => guardB want (fr d)
      | none => none
    | none => none

def isA : Op → Bool
  | .box _ _ | .alloc _ | .store _ _ _ | .mapUpdate _ _ _ _ | .makeMap _ _ | .range _ _ | .next _ _ | .call ⟨.value _, _, _⟩ | .buildSlice _ _ _ | .call ⟨.builtin .append, _, _⟩ | .call ⟨.builtin .delete, _, _⟩ => false
  | _ => true

def dstLt (n : Nat) : Option Nat → Bool
  | some d => decide (d < n)
  | none => true

/-- A call under a condition, of what leaves the heap alone. -/
def pcall (P : Program) (c : Bool) (w : V → V) (o : Oper) (K : St → Prop) (st : St) : Prop :=
  match o.op with
  | .call cl => match callV st.fr cl with
    | some (g, id, vs) => ∃ r, (c = true → g ∧ Pure P id vs st.M r) ∧ K (setD st o.dst (w r))
    | none => False
  | _ => False

/-- One operation, with its guard. -/
def opg (P : Program) (n : Nat) (esc : Nat → Bool) (ops : Array Oper) (o : Oper) (K : St → Prop) (st : St) : Prop :=
  dstLt n o.dst = true ∧
  match o.guard with
  | none => opw P esc o K st
  | some gd =>
    match guardOf ops st.fr gd with
    | none => False
    | some c =>
      match isA o.op with
      | true => match evalQ P st.M st.fr o.op with
        | some (need, v) => (c = true → need) ∧ K (setD st o.dst (.when c v))
        | none => c = false ∧ K (setD st o.dst (.tup []))
      | false => ((c = true → opw P esc o K st) ∧ (c = false → K (setD st o.dst (.tup [])))) ∨ pcall P c (.when c) o K st

section
variable {P : Program} {E0 E : Env} {w0 w : World} {n : Nat} {st : St} {a : Act} {esc : Nat → Bool} {K : St → Prop} {Q : Exit → Act → World → Prop} {ops : Array Oper}

theorem guardB_sound {t : Nat} {want : Bool} : ∀ {v : V} {x : Value} {c : Bool}, guardB want v = some c → RS E w t v x → ((match x with | .bool b => some b | _ => none) == some want) = c
  | .bool b, x, c, h, hr => by
    simp [guardB] at h; subst h
    simp only [RS, R] at hr; subst hr
    cases b <;> cases want <;> rfl
  | .when d v, x, c, h, hr => by
    simp only [guardB] at h
    split at h <;> simp at h
    rename_i b hb
    subst h
    simp only [RS] at hr
    cases d with
    | true => simpa using guardB_sound hb (hr.1 rfl)
    | false => have := hr.2 rfl; subst this; simp [undef]
  | .tup vs, x, c, h, hr => by
    cases vs <;> simp [guardB] at h
    subst h
    simp only [RS, R] at hr
    obtain ⟨xs, rfl, _⟩ := hr
    rfl
  | .any, x, c, h, hr => by simp [guardB] at h
  | .int _ _, x, c, h, hr => by simp [guardB] at h
  | .str _, x, c, h, hr => by simp [guardB] at h
  | .agg _, x, c, h, hr => by simp [guardB] at h
  | .lst _, x, c, h, hr => by simp [guardB] at h
  | .nilp, x, c, h, hr => by simp [guardB] at h
  | .ptr _ _, x, c, h, hr => by simp [guardB] at h
  | .eref _ _, x, c, h, hr => by simp [guardB] at h
  | .lref _ _ _, x, c, h, hr => by simp [guardB] at h
  | .box _ _, x, c, h, hr => by simp [guardB] at h
  | .itr _ _ _, x, c, h, hr => by simp [guardB] at h
  | .nilm, x, c, h, hr => by simp [guardB] at h
  | .map _, x, c, h, hr => by simp [guardB] at h
  | .fn _ _ _, x, c, h, hr => by simp [guardB] at h
  | .nilf, x, c, h, hr => by simp [guardB] at h
  | .iface _ _, x, c, h, hr => by simp [guardB] at h
  | .nili, x, c, h, hr => by simp [guardB] at h

theorem guardOf_sound {o : Oper} {gd : Nat × Bool} {c : Bool} (hg : o.guard = some gd) (hf : FR E w st.fr a.tmps) (h : guardOf ops st.fr gd = some c) : Region.wanted o (yielded ops a.tmps) = c := by
  obtain ⟨j, want⟩ := gd
  simp only [guardOf] at h
  split at h <;> try (simp at h; done)
  rename_i oj hj
  split at h <;> try (simp at h; done)
  rename_i d hd
  have := guardB_sound h (hf d)
  simp only [Region.wanted, hg]
  rw [← this]
  simp only [yielded, hj, hd, Option.bind_some]
  congr 1
  cases hx : a.tmps[d]? with
  | none =>
    have : a.tmps.getD d undef = undef := by simp [Array.getD_eq_getD_getElem?, hx]
    rw [this]; simp [undef]
  | some x =>
    have : a.tmps.getD d undef = x := by simp [Array.getD_eq_getD_getElem?, hx]
    rw [this]
    cases x <;> rfl

theorem dstLt_spec {n : Nat} {dst : Option Nat} (h : dstLt n dst = true) : ∀ d, dst = some d → d < n := by
  intro d hd; subst hd; simpa [dstLt] using h

/-- A value under a condition. -/
theorem RS.whenT {t : Nat} {v : V} {x : Value} {c : Bool} (hc : c = true) (h : RO E w v x) : RS E w t (.when c v) x := by
  simp only [RS]; exact ⟨fun _ => RS.of_RO h, fun hf => absurd hc (by simp [hf])⟩
theorem RS.whenF {t : Nat} {v : V} {c : Bool} (hc : c = false) : RS E w t (.when c v) undef := by
  simp only [RS]; exact ⟨fun hf => absurd hf (by simp [hc]), fun _ => trivial⟩

theorem pcall_sound {o : Oper} {c : Bool} {wr : V → V} (h : RSt E0 w0 n E w st a) (hd : ∀ d, o.dst = some d → d < n) (hc : c = true) (hwr : ∀ (E' : Env) (w' : World) (t : Nat) (r : V) (x : Value), RO E' w' r x → RS E' w' t (wr r) x)
    (hk : pcall P c wr o K st) : o.wp P a w (Nxt E0 w0 n K) Q := by
  obtain ⟨dst, op, type, pos, after, guard⟩ := o
  unfold pcall at hk
  simp only at hk
  split at hk <;> try (exact hk.elim)
  rename_i cl
  split at hk <;> try (exact hk.elim)
  rename_i g id vs h1
  obtain ⟨r, h2, h3⟩ := hk
  obtain ⟨k1, hp⟩ := h2 hc
  obtain ⟨xs, hrun, hl⟩ := callV_sound (P := P) (w := w) (type := type) h.fr h1 k1
  unfold Oper.wp
  simp only [execOp]
  rw [hrun]
  obtain ⟨⟨fn, hfn, hname, hbody⟩, hcall⟩ := hp
  have e1 : fn.name ≠ "runtime.NumGoroutine" := by simpa using hname
  have e2 : fn.body ≠ none := by intro e; simp [e] at hbody
  have hrun : (callFunc id xs).run P w = .ok (.enter id xs) w := by
    simp [callFunc, hfn, e1, e2]
  rw [hrun, Oper.upon_enter]
  have hlat := later_callee E w
  refine (hcall (callee E) w xs (fun _ _ => rfl) (inv_callee h.inv) (RL.later hlat _ _ hl) (fun o ho hM => ?_) h.dom).mono fun e w' he => ?_
  · obtain ⟨b, hb, hr⟩ := h.heap o ho hM
    exact ⟨b, hb, hr.later hlat rfl⟩
  · obtain ⟨x, r', M', E', rfl, ⟨rfl, rfl⟩, hr, hm, hi, hdm⟩ := he
    refine ⟨back E E', setD st dst (wr r'), ?_, h3⟩
    have hb := later_back hi
    have h' : RSt E0 w0 n (back E E') w' st a := by
      refine ⟨inv_call h.inv hi, fun t => RS.call h.inv hi (h.fr t), h.size, fun o ho hM => ?_, h.defers, h.gens, hdm⟩
      obtain ⟨b, hb', hr'⟩ := hm o ho hM
      exact ⟨b, hb', hr'.later hb rfl⟩
    exact h'.put hd (fun t => hwr _ _ _ _ _ (RO.of_R (R.later hb _ _ hr)))

theorem opg_sound {o : Oper} {i : Nat} (hi : ops[i]? = some o) (h : RSt E0 w0 n E w st a) (hk : opg P n esc ops o K st) : wpOp P ops Q i (Nxt E0 w0 n K) a w := by
  obtain ⟨hd, hk⟩ := hk
  have hd := dstLt_spec hd
  unfold wpOp
  simp only [hi]
  cases hg : o.guard with
  | none =>
    have hw : Region.wanted o (yielded ops a.tmps) = true := by simp [Region.wanted, hg]
    simp only [hg] at hk
    rw [if_pos hw]
    exact .inl (opw_sound h hd hk)
  | some gd =>
    simp only [hg] at hk
    split at hk <;> try (exact hk.elim)
    rename_i c hc
    have hw := guardOf_sound hg h.fr hc
    rw [hw]
    split at hk
    · -- it leaves memory alone
      split at hk
      · rename_i need v hev
        cases c with
        | true =>
          obtain ⟨x, hx, hr⟩ := evalQ_sound (o := o) hev (hk.1 rfl) h.fr h.heap
          rw [if_pos rfl]
          refine .inl ?_
          unfold Oper.wp
          rw [hx, Oper.upon_value]
          exact ⟨E, _, h.put hd (fun t => RS.whenT rfl hr), hk.2⟩
        | false =>
          rw [if_neg (by simp)]
          exact ⟨E, _, h.put hd (fun t => RS.whenF rfl), hk.2⟩
      · obtain ⟨rfl, hk⟩ := hk
        rw [if_neg (by simp)]
        exact ⟨E, _, h.put hd RS_tupnil, hk⟩
    · rcases hk with hk | hk
      · cases c with
        | true => rw [if_pos rfl]; exact .inl (opw_sound h hd (hk.1 rfl))
        | false => rw [if_neg (by simp)]; exact ⟨E, _, h.put hd RS_tupnil, hk.2 rfl⟩
      · cases c with
        | true => rw [if_pos rfl]; exact .inl (pcall_sound h hd rfl (fun E' w' t r x hr => RS.whenT rfl hr) hk)
        | false =>
          rw [if_neg (by simp)]
          unfold pcall at hk
          split at hk <;> try (exact hk.elim)
          split at hk <;> try (exact hk.elim)
          obtain ⟨r, _, h3⟩ := hk
          exact ⟨E, _, h.put hd (fun t => RS.whenF rfl), h3⟩

/-- A region in the order of the text. -/
def opsg (P : Program) (n : Nat) (esc : Nat → Bool) (ops : Array Oper) : List Oper → (St → Prop) → St → Prop
  | [], K, st => K st
  | o :: os, K, st => opg P n esc ops o (opsg P n esc ops os K) st

theorem opsg_sound (hq : ∀ a w, Nxt E0 w0 n K a w → Q .normal a w) : ∀ (l : List Oper) (k : Nat) (E : Env) (w : World) (st : St) (a : Act), (∀ j, l[j]? = ops[k + j]?) → RSt E0 w0 n E w st a → opsg P n esc ops l K st →
    wpOps P ops Q ((List.range l.length).map (k + ·)) a w
  | [], k, E, w, st, a, hl, h, hk => by simp only [List.length_nil, List.range_zero, List.map_nil, wpOps]; exact hq _ _ ⟨E, st, h, hk⟩
  | o :: l, k, E, w, st, a, hl, h, hk => by
    have h0 : ops[k]? = some o := by simpa using (hl 0).symm
    have hr : (List.range (o :: l).length).map (k + ·) = k :: (List.range l.length).map ((k + 1) + ·) := by
      rw [List.length_cons, List.range_succ_eq_map]
      simp only [List.map_cons, Nat.add_zero, List.map_map, List.cons.injEq, true_and]
      apply List.map_congr_left
      intro i _
      simp only [Function.comp_apply, Nat.succ_eq_add_one]
      omega
    rw [hr, wpOps_cons]
    refine wpOp_mono (fun a' w' hn => ?_) (opg_sound h0 h hk)
    obtain ⟨E', st', h', hk'⟩ := hn
    exact opsg_sound hq l (k + 1) E' w' st' a' (fun j => by have := hl (j + 1); simpa [Nat.add_assoc, Nat.add_comm 1 j] using this) h' hk'
end
end Go.Eng

/- The engine, part 11: a region that draws its order: the order of the text stands for every order. -/
namespace Go.Eng
set_option linter.unusedSimpArgs false
set_option linter.unusedVariables false

/-! ### Orders, whatever the operations are -/
section order
variable {S : Type} {ops : Array Oper} {T : Nat → (S → Prop) → S → Prop} {K : S → Prop}

/-- Whatever order is picked from here on. -/
def anyA (ops : Array Oper) (T : Nat → (S → Prop) → S → Prop) (K : S → Prop) : Nat → Array Bool → S → Prop
  | 0, listed, s => Region.ready .any ops listed = [] ∧ K s
  | fuel + 1, listed, s => (Region.ready .any ops listed = [] → K s) ∧ ∀ i ∈ Region.ready .any ops listed, T i (anyA ops T K fuel (listed.setIfInBounds i true)) s

/-- Two operations may change places. -/
def Swap (T : Nat → (S → Prop) → S → Prop) (i j : Nat) : Prop := ∀ (K : S → Prop) s, T i (T j K) s → T j (T i K) s

theorem anyA_first (mono : ∀ i (K K' : S → Prop) s, (∀ s, K s → K' s) → T i K s → T i K' s) (real : ∀ i s, ¬ T i (fun _ => False) s) {i : Nat} {D : Nat → Bool}
    (hD2 : ∀ j oj, ops[j]? = some oj → D j = true → ∃ e ∈ oj.after, Region.binds .any e = true ∧ (e.on = i ∨ D e.on = true)) :
    ∀ (fuel : Nat) (listed : Array Bool) (s : S), (∀ j, D j = true → listed.getD j true = false) →
      (∀ j oj, ops[j]? = some oj → j ≠ i → listed.getD j true = false → D j = false → Swap T i j) →
      i ∈ Region.ready .any ops listed → T i (anyA ops T K fuel (listed.setIfInBounds i true)) s → anyA ops T K (fuel + 1) listed s := by
  intro fuel
  induction fuel with
  | zero =>
    intro listed s _ _ hr H
    refine ⟨fun h => (by rw [h] at hr; cases hr), fun j hj => ?_⟩
    by_cases hji : j = i
    · subst hji; exact H
    · exfalso
      have hj' := ready_mono hj hji
      refine real i s (mono i _ _ s (fun s' h' => ?_) H)
      rw [h'.1] at hj'
      cases hj'
  | succ fuel ih =>
    intro listed s hD1 hfree hr H
    refine ⟨fun h => (by rw [h] at hr; cases hr), fun j hj => ?_⟩
    by_cases hji : j = i
    · subst hji; exact H
    · have hj' := ready_mono hj hji
      have H1 : T i (T j (anyA ops T K fuel ((listed.setIfInBounds i true).setIfInBounds j true))) s := mono i _ _ s (fun s' h' => h'.2 j hj') H
      obtain ⟨hjun, oj, hoj, hall⟩ := mem_ready.1 hj
      have hDj : D j = false := by
        cases hq : D j with
        | false => rfl
        | true =>
          exfalso
          obtain ⟨e, he, hb, h⟩ := hD2 j oj hoj hq
          have h1 := hall e he hb
          have h0 : listed.getD e.on true = false := by
            rcases h with h | h
            · rw [h]; exact (mem_ready.1 hr).1
            · exact hD1 _ h
          rcases Nat.lt_or_ge e.on listed.size with h' | h'
          · simp [h'] at h0 h1; rw [h0] at h1; cases h1
          · simp [Array.getElem?_eq_none h'] at h1
      have H2 := hfree j oj hoj hji hjun hDj _ _ H1
      have hne : ∀ k, D k = true → j ≠ k := fun k hk e => by subst e; rw [hDj] at hk; cases hk
      have hD1' : ∀ k, D k = true → (listed.setIfInBounds j true).getD k true = false := fun k hk => by
        rw [getD_set_ne true (hne k hk)]; exact hD1 k hk
      have hfree' : ∀ k ok, ops[k]? = some ok → k ≠ i → (listed.setIfInBounds j true).getD k true = false → D k = false → Swap T i k := fun k ok hk hki hun hno => by
        refine hfree k ok hk hki ?_ hno
        by_cases hjk : j = k
        · subst hjk; exact hjun
        · rw [getD_set_ne true hjk] at hun; exact hun
      refine mono j _ _ s (fun s' h' => ih (listed.setIfInBounds j true) s' hD1' hfree' (ready_mono hr (Ne.symm hji)) ?_) H2
      rw [Array.setIfInBounds_comm _ _ hji]
      exact h'

/-- What waits for operation k, through others too. -/
def descs (ops : Array Oper) (k : Nat) : List Nat :=
  (List.range ops.size).foldl (fun acc j => if ((ops[j]?).map fun oj => oj.after.any fun e => Region.binds .any e && (e.on == k || acc.contains e.on)).getD false then j :: acc else acc) []

/-- The order of the text fits: each operation may come up when all ahead of it have; those that needn't wait for it may change places with it. -/
def lexA (ops : Array Oper) (ind : Nat → Nat → Bool) : Nat → Nat → Array Bool → Bool
  | 0, _, listed => (Region.ready .any ops listed).isEmpty
  | f + 1, k, listed =>
    (Region.ready .any ops listed).contains k &&
    ((descs ops k).all fun d => !(listed.getD d true) && ((ops[d]?).map fun od => od.after.any fun e => Region.binds .any e && (e.on == k || (descs ops k).contains e.on)).getD false) &&
    ((List.range ops.size).all fun j => j == k || listed.getD j true || (descs ops k).contains j || ind k j) &&
    lexA ops ind f (k + 1) (listed.setIfInBounds k true)

def seqT (T : Nat → (S → Prop) → S → Prop) (K : S → Prop) : Nat → Nat → S → Prop
  | 0, _, s => K s
  | f + 1, k, s => T k (seqT T K f (k + 1)) s

theorem anyA_lex (mono : ∀ i (K K' : S → Prop) s, (∀ s, K s → K' s) → T i K s → T i K' s) (real : ∀ i s, ¬ T i (fun _ => False) s) {ind : Nat → Nat → Bool} (hind : ∀ i j, ind i j = true → Swap T i j) :
    ∀ (f k : Nat) (listed : Array Bool) (s : S), lexA ops ind f k listed = true → seqT T K f k s → anyA ops T K f listed s
  | 0, k, listed, s, hB, h => ⟨by simpa [lexA] using hB, h⟩
  | f + 1, k, listed, s, hB, h => by
    simp only [lexA, Bool.and_eq_true] at hB
    obtain ⟨⟨⟨h1, hd⟩, h2⟩, h3⟩ := hB
    have hd' := fun d (hm : (descs ops k).contains d = true) => List.all_eq_true.1 hd d (by simpa using hm)
    refine anyA_first mono real (D := fun j => (descs ops k).contains j) (fun j oj hj hm => ?_) f listed s (fun j hm => ?_) (fun j oj hj hne hun hnw => hind k j ?_) (by simpa using h1) (mono k _ _ s (fun s' h' => anyA_lex mono real hind f (k + 1) _ s' h3 h') h)
    · have := hd' j hm
      simp only [Bool.and_eq_true, hj, Option.map_some, Option.getD_some, Array.any_eq_true'] at this
      obtain ⟨e, he, hb⟩ := this.2
      simp only [Bool.and_eq_true, Bool.or_eq_true, beq_iff_eq] at hb
      exact ⟨e, he, hb.1, hb.2⟩
    · have := hd' j hm
      simp only [Bool.and_eq_true] at this
      simpa using this.1
    have hlt : j < ops.size := by
      rcases Nat.lt_or_ge j ops.size with h | h
      · exact h
      · simp [Array.getElem?_eq_none h] at hj
    have := List.all_eq_true.1 h2 j (List.mem_range.2 hlt)
    simp only [Bool.or_eq_true, beq_iff_eq] at this
    rcases this with ((h | h) | h) | h
    · exact absurd h hne
    · rw [hun] at h; cases h
    · rw [hnw] at h; cases h
    · exact h

/-! ### The same, by bits -/
def masks : List Edge → Nat → Nat
  | [], m => m
  | e :: l, m => masks l (bif Region.binds .any e then m ||| (1 <<< e.on) else m)

theorem masks_mono : ∀ (l : List Edge) (m i : Nat), m.testBit i = true → (masks l m).testBit i = true
  | [], m, i, h => h
  | e :: l, m, i, h => by
    refine masks_mono l _ i ?_
    cases Region.binds .any e with
    | true => simp [h]
    | false => exact h

theorem masks_spec : ∀ (l : List Edge) (m i : Nat), (masks l m).testBit i = true → m.testBit i = true ∨ ∃ e ∈ l, Region.binds .any e = true ∧ e.on = i
  | [], m, i, h => .inl h
  | e :: l, m, i, h => by
    rcases masks_spec l _ i h with h1 | ⟨e', h1, h2⟩
    · cases hb : Region.binds .any e with
      | true =>
        rw [hb] at h1
        simp only [cond_true, Nat.testBit_or, Bool.or_eq_true] at h1
        rcases h1 with h1 | h1
        · exact .inl h1
        · refine .inr ⟨e, by simp, hb, ?_⟩
          rw [Nat.testBit_shiftLeft] at h1
          simp only [Bool.and_eq_true, decide_eq_true_eq] at h1
          have h2 : i - e.on = 0 := by
            rcases Nat.eq_zero_or_pos (i - e.on) with h3 | h3
            · exact h3
            · exfalso
              have : Nat.testBit 1 (i - e.on) = false := Nat.testBit_lt_two_pow (Nat.one_lt_two_pow (by omega))
              rw [this] at h1; exact absurd h1.2 (by simp)
          omega
      | false => rw [hb] at h1; exact .inl h1
    · exact .inr ⟨e', by simp [h1], h2⟩

def masksL (ops : Array Oper) : List Nat := ops.toList.map fun o => masks o.after.toList 0

def descM : List Nat → Nat → Nat → Nat
  | [], _, acc => acc
  | a :: l, j, acc => descM l (j + 1) (bif Nat.beq (a &&& acc) 0 then acc else acc ||| (1 <<< j))

def chk (ind : Nat → Bool) (mask k : Nat) : List Nat → Nat → Bool
  | [], j => Nat.beq (mask >>> j) 0
  | a :: l, j => (bif mask.testBit j then Nat.beq j k || (Nat.ble (k + 1) j && !(Nat.beq (a &&& mask) 0)) else Nat.ble j k || ind j) && chk ind mask k l (j + 1)

theorem chk_spec {ind : Nat → Bool} {mask k : Nat} : ∀ (l : List Nat) (i : Nat), chk ind mask k l i = true →
    (∀ j a, l[j]? = some a → (mask.testBit (i + j) = true → i + j = k ∨ (k < i + j ∧ a &&& mask ≠ 0)) ∧ (mask.testBit (i + j) = false → i + j ≤ k ∨ ind (i + j) = true)) ∧ ∀ j, i + l.length ≤ j → mask.testBit j = false
  | [], i, h => by
    refine ⟨fun j a h => by simp at h, fun j hj => ?_⟩
    simp only [chk] at h
    have h0 : mask >>> i = 0 := Nat.eq_of_beq_eq_true h
    have : (mask >>> i).testBit (j - i) = mask.testBit (i + (j - i)) := Nat.testBit_shiftRight ..
    rw [h0, Nat.zero_testBit] at this
    simp only [List.length_nil, Nat.add_zero] at hj
    rw [show i + (j - i) = j by omega] at this
    exact this.symm
  | b :: l, i, h => by
    simp only [chk, Bool.and_eq_true] at h
    obtain ⟨h1, h2⟩ := h
    obtain ⟨h3, h4⟩ := chk_spec l (i + 1) h2
    refine ⟨fun j a hj => ?_, fun j hj => h4 j (by simp only [List.length_cons] at hj; omega)⟩
    cases j with
    | zero =>
      simp only [List.getElem?_cons_zero, Option.some.injEq] at hj
      subst hj
      simp only [Nat.add_zero]
      refine ⟨fun hb => ?_, fun hb => ?_⟩
      · rw [hb] at h1
        simp only [cond_true, Bool.or_eq_true, Bool.and_eq_true, Bool.not_eq_true'] at h1
        rcases h1 with h1 | ⟨h1, h5⟩
        · exact .inl (Nat.eq_of_beq_eq_true h1)
        · refine .inr ⟨Nat.le_of_ble_eq_true h1, fun e => ?_⟩
          rw [e] at h5; cases h5
      · rw [hb] at h1
        simp only [cond_false, Bool.or_eq_true] at h1
        exact h1.imp (fun h => Nat.le_of_ble_eq_true h) id
    | succ j =>
      have := h3 j a (by simpa using hj)
      rw [show i + 1 + j = i + (j + 1) by omega] at this
      exact this

def rdy (ops : Array Oper) (k : Nat) : Bool :=
  match ops[k]? with
  | some o => o.after.toList.all fun e => !(Region.binds .any e) || Nat.ble (e.on + 1) k
  | none => false

/-- The order of the text fits. -/
def lexF (ops : Array Oper) (ind : Nat → Nat → Bool) : Nat → Nat → Bool
  | 0, _ => true
  | f + 1, k => rdy ops k && (chk (ind k) (descM (masksL ops) 0 (1 <<< k)) k (masksL ops) 0 && lexF ops ind f (k + 1))

theorem anyA_lexF (mono : ∀ i (K K' : S → Prop) s, (∀ s, K s → K' s) → T i K s → T i K' s) (real : ∀ i s, ¬ T i (fun _ => False) s) {ind : Nat → Nat → Bool} (hind : ∀ i j, ind i j = true → Swap T i j) :
    ∀ (f k : Nat) (listed : Array Bool) (s : S), k + f = ops.size → listed.size = ops.size → (∀ j, j < ops.size → listed[j]? = some (decide (j < k))) → lexF ops ind f k = true → seqT T K f k s → anyA ops T K f listed s
  | 0, k, listed, s, hk, hsz, hL, hB, h => by
    refine ⟨?_, h⟩
    apply List.eq_nil_iff_forall_not_mem.2
    intro i hi
    obtain ⟨h1, o, ho, _⟩ := mem_ready.1 hi
    have hlt : i < ops.size := (Array.getElem?_eq_some_iff.1 ho).1
    rw [Array.getD_eq_getD_getElem?, hL i hlt] at h1
    simp at h1; omega
  | f + 1, k, listed, s, hk, hsz, hL, hB, h => by
    simp only [lexF, Bool.and_eq_true] at hB
    obtain ⟨h1, h2, h3⟩ := hB
    obtain ⟨c1, c2⟩ := chk_spec _ _ h2
    have hlen : (masksL ops).length = ops.size := by simp [masksL]
    have hAt : ∀ (j : Nat) (oj : Oper), ops[j]? = some oj → (masksL ops)[j]? = some (masks oj.after.toList 0) := by
      intro j oj hj
      simp [masksL, hj]
    generalize hmask : descM (masksL ops) 0 (1 <<< k) = mask at c1 c2
    have hfalse : ∀ j, listed.getD j true = false → j < ops.size ∧ k ≤ j := by
      intro j hj
      rcases Nat.lt_or_ge j ops.size with hlt | hge
      · rw [Array.getD_eq_getD_getElem?, hL j hlt] at hj
        simp at hj
        exact ⟨hlt, hj⟩
      · rw [Array.getD_eq_getD_getElem?, Array.getElem?_eq_none (by omega)] at hj
        simp at hj
    have hk' : k < ops.size := by omega
    refine anyA_first mono real (D := fun j => mask.testBit j && j != k) (fun j oj hj hm => ?_) f listed s (fun j hm => ?_) (fun j oj hj hne hun hnw => hind k j ?_) ?_ (mono k _ _ s (fun s' h' => anyA_lexF mono real hind f (k + 1) _ s' (by omega) (by simpa using hsz) (fun j hj => ?_) h3 h') h)
    · simp only [Bool.and_eq_true, bne_iff_ne] at hm
      obtain ⟨q1, q2⟩ := c1 j _ (hAt j oj hj)
      simp only [Nat.zero_add] at q1
      rcases q1 hm.1 with q3 | ⟨q3, q4⟩
      · exact absurd q3 hm.2
      · have : ∃ i, (masks oj.after.toList 0 &&& mask).testBit i = true := by
          refine Classical.byContradiction fun hno => q4 (Nat.eq_of_testBit_eq fun i => ?_)
          rw [Nat.zero_testBit]
          cases hb : (masks oj.after.toList 0 &&& mask).testBit i with
          | false => rfl
          | true => exact absurd ⟨i, hb⟩ hno
        obtain ⟨i, hi⟩ := this
        rw [Nat.testBit_and, Bool.and_eq_true] at hi
        rcases masks_spec _ _ _ hi.1 with h5 | ⟨e, h5, h6, h7⟩
        · simp at h5
        · refine ⟨e, by simpa using h5, h6, ?_⟩
          by_cases he : e.on = k
          · exact .inl he
          · refine .inr ?_
            simp only [Bool.and_eq_true, bne_iff_ne]
            exact ⟨by rw [h7]; exact hi.2, he⟩
    · simp only [Bool.and_eq_true, bne_iff_ne] at hm
      rcases Nat.lt_or_ge j ops.size with hlt | hge
      · obtain ⟨q1, _⟩ := c1 j _ (hAt j _ (Array.getElem?_eq_getElem hlt))
        simp only [Nat.zero_add] at q1
        rw [Array.getD_eq_getD_getElem?, hL j hlt]
        rcases q1 hm.1 with q3 | ⟨q3, _⟩
        · exact absurd q3 hm.2
        · simp; omega
      · have := c2 j (by rw [hlen]; omega)
        rw [this] at hm; exact absurd hm.1 (by simp)
    · obtain ⟨q0, q5⟩ := hfalse j hun
      obtain ⟨_, q2⟩ := c1 j _ (hAt j oj hj)
      simp only [Nat.zero_add] at q2
      have : mask.testBit j = false := by
        cases hb : mask.testBit j with
        | false => rfl
        | true => rw [hb] at hnw; simp at hnw; exact absurd hnw hne
      rcases q2 this with q3 | q3
      · omega
      · exact q3
    · refine mem_ready.2 ⟨?_, ops[k], Array.getElem?_eq_getElem hk', fun e he hb => ?_⟩
      · rw [Array.getD_eq_getD_getElem?, hL k hk']; simp
      · unfold rdy at h1
        rw [Array.getElem?_eq_getElem hk'] at h1
        have := List.all_eq_true.1 h1 e (by simpa using he)
        rw [hb] at this
        simp only [Bool.not_true, Bool.false_or] at this
        have hlt := Nat.le_of_ble_eq_true this
        rw [Array.getD_eq_getD_getElem?, hL e.on (by omega)]
        simp; omega
    · rw [Array.getElem?_setIfInBounds]
      split
      · subst_vars
        rw [if_pos (by omega)]
        simp
      · rw [hL j hj]
        congr 1
        simp only [decide_eq_decide]
        omega
end order

theorem wpAny_of_anyA {P : Program} {ops : Array Oper} {T : Nat → (St → Prop) → St → Prop} {K : St → Prop} {Q : Exit → Act → World → Prop} {E0 : Env} {w0 : World} {n : Nat}
    (hT : ∀ i (K : St → Prop) E w st a, RSt E0 w0 n E w st a → T i K st → wpOp P ops Q i (Nxt E0 w0 n K) a w) (hq : ∀ a w, Nxt E0 w0 n K a w → Q .normal a w) :
    ∀ (fuel : Nat) (listed : Array Bool) (E : Env) (w : World) (st : St) (a : Act), RSt E0 w0 n E w st a → anyA ops T K fuel listed st → wpAny P .any ops Q fuel listed a w
  | 0, listed, E, w, st, a, h, hk => ⟨hk.1, hq _ _ ⟨E, st, h, hk.2⟩⟩
  | fuel + 1, listed, E, w, st, a, h, hk => ⟨fun h0 => hq _ _ ⟨E, st, h, hk.1 h0⟩, fun i hi => wpOp_mono (fun a' w' ⟨E', st', h', hk'⟩ => wpAny_of_anyA hT hq fuel _ E' w' st' a' h' hk') (hT i _ E w st a h (hk.2 i hi))⟩
end Go.Eng

/- The engine, part 12: the operations of a region that draws its order. -/
namespace Go.Eng
set_option linter.unusedSimpArgs false
set_option linter.unusedVariables false

def emptyH : Heap := fun _ => none

/-- A store into a variable of the function's own, marked so by 'esc': where. -/
def ownSt (esc : Nat → Bool) (o : Oper) : Option Nat :=
  match o.op, o.dst, o.guard with
  | .store _ (.tmp s) _, none, none => if esc (s + 1000000) then some s else none
  | _, _, _ => none

/-- What slot an operation turns. -/
def dstE (esc : Nat → Bool) (o : Oper) : Option Nat :=
  match o.dst with
  | some d => some d
  | none => ownSt esc o

/-- 0: it leaves memory alone; 1: a new local variable, or a store into one of the function's own; 2: a call; 3: whatever else; 5: a new variable on the heap. -/
def kindO (esc : Nat → Bool) (m : Bool) (o : Oper) : Nat :=
  match o.op with
  | .box _ _ | .alloc _ => match o.dst, o.guard with
    | some d, none => if esc d then 5 else 1
    | _, _ => 4
  | .call ⟨.value _, _, _⟩ => 2
  | .store _ _ _ => match ownSt esc o with
    | some _ => 1
    | none => if m && o.guard.isNone then 2 else 3
  | .mapUpdate _ _ _ _ => 3
  | op => if isA op then 0 else 4

def ordered (before : Array Nat) (i j : Nat) : Bool := (before.getD j 0).testBit i || (before.getD i 0).testBit j

/-- Slots that the region writes. -/
def badD (esc : Nat → Bool) (ops : Array Oper) (_i : Nat) : List Nat := ops.toList.filterMap (dstE esc)

/-- Is there a call on either side of operation i? -/
def blindB (esc : Nat → Bool) (m : Bool) (ops : Array Oper) (i : Nat) : Bool :=
  (List.range ops.size).any fun j => j != i && !ordered (Region.before ops) i j && ((ops[j]?).map fun o => kindO esc m o == 2).getD false

/-- Where an operation reads a local variable. -/
def reads (fr : Nat → V) : Op → Option Nat
  | .load _ a => match opv fr a with
    | some (_, .lref s _ _) => some s
    | _ => none
  | _ => none

def safe (fr : Nat → V) (bad : List Nat) (op : Op) : Prop := ∀ s, reads fr op = some s → s ∉ bad

/-- One outcome: what comes into the slot; is it a new variable? -/
def act (st : St) (dst : Option Nat) (v : V) (b : Bool) : St :=
  match dst with
  | some d => { st with fr := upd st.fr d v, gen := if b then bump st.gen d else st.gen }
  | none => st

def guardC (ops : Array Oper) (fr : Nat → V) : Option (Nat × Bool) → Option Bool
  | none => some true
  | some gd => guardOf ops fr gd

def wrapG (g : Option (Nat × Bool)) (c : Bool) (v : V) : V :=
  match g with
  | none => v
  | some _ => .when c v

/-- What operation i comes to (it leaves memory alone, or it is a new variable, or a call that leaves the heap alone). -/
def Det (P : Program) (n : Nat) (esc : Nat → Bool) (ops : Array Oper) (m : Bool) (i : Nat) (o : Oper) (st : St) (v : V) (b : Bool) : Prop :=
  dstLt n o.dst = true ∧
  match kindO esc m o with
  | 0 =>
    match guardC ops st.fr o.guard, evalQ P (if m && blindB esc m ops i then emptyH else st.M) st.fr o.op with
    | some c, some (need, u) => (c = true → need) ∧ safe st.fr (badD esc ops i) o.op ∧ v = wrapG o.guard c u ∧ b = false
    | some c, none => c = false ∧ o.guard.isSome = true ∧ safe st.fr (badD esc ops i) o.op ∧ v = .tup [] ∧ b = false
    | _, _ => False
  | 1 =>
    match o.op, o.dst with
    | .box _ x, some d => match opv st.fr x with
      | some (g, u) => g ∧ u.tag < 20 ∧ v = .box (st.gen d) u.cells ∧ b = true
      | none => False
    | .alloc t, some d => match zeroV P t with
      | some z => v = .box (st.gen d) z.cells ∧ b = true
      | none => False
    | .store t (.tmp s) x, none => match ti P t, opv st.fr x, st.fr s with
      | some T, some (g, u), .box g' cs => g ∧ u.cells.length ≤ cs.length ∧ u.cells.length = T.size ∧ u.tag < 20 ∧ (∀ c ∈ u.cells, cellOk c = true) ∧ v = .box g' (splice cs 0 u.cells) ∧ b = false
      | _, _, _ => False
    | _, _ => False
  | 2 =>
    match guardC ops st.fr o.guard, o.op with
    | some c, .call cl => match callV st.fr cl with
      | some (g, id, vs) => ∃ r, (c = true → g ∧ Pure P id vs st.M r) ∧ v = wrapG o.guard c r ∧ b = false
      | none => False
    | _, _ => False
  | _ => False

/-- What a call may come to that writes the heap. -/
def May (P : Program) (n : Nat) (ops : Array Oper) (o : Oper) (st : St) (S : V → Heap → Prop) : Prop :=
  dstLt n o.dst = true ∧ (∃ r M', S r M') ∧
  match o.op with
  | .call cl =>
    match guardC ops st.fr o.guard with
    | some c => (c = true → match callV st.fr cl with
        | some (g, id, vs) => g ∧ Spec P id vs st.M S
        | none => False) ∧ (c = false → ∀ r M', S r M' ↔ (r = .tup [] ∧ M' = st.M))
    | none => False
  | .store t a x => o.guard = none ∧
    match ti P t, opv st.fr a, opv st.fr x with
    | some T, some (g, .ptr ob off), some (g', v) =>
      match st.M ob with
      | some (.cells cs) => g ∧ g' ∧ off + v.cells.length ≤ cs.length ∧ v.cells.length = T.size ∧ v.tag < 20 ∧ (∀ c ∈ v.cells, cellOk c = true) ∧
          ∀ r M', S r M' ↔ (r = .tup [] ∧ M' = updH st.M ob (.cells (splice cs off v.cells)))
      | _ => False
    | _, _, _ => False
  | _ => False

def St.withM (st : St) (M' : Heap) : St := ⟨st.fr, M', st.gen⟩

/-- The cells of a new variable. -/
def newC (P : Program) (fr : Nat → V) : Op → Option (Prop × List V)
  | .box _ x => match opv fr x with
    | some (g, u) => some (g ∧ u.tag < 20, u.cells)
    | none => none
  | .alloc t => match zeroV P t with
    | some z => some (True, z.cells)
    | none => none
  | _ => none

/-- A new variable on the heap, under a name that is free. -/
def newE (P : Program) (n : Nat) (o : Oper) (K : St → Prop) (st : St) : Prop :=
  dstLt n o.dst = true ∧
  match o.dst, newC P st.fr o.op with
  | some d, some (g, cs) => g ∧ ∃ N, st.M N = none ∧ K ⟨upd st.fr d (.ptr N 0), updH st.M N (.cells cs), st.gen⟩
  | _, _ => False

def opd (P : Program) (n : Nat) (esc : Nat → Bool) (ops : Array Oper) (m : Bool) (i : Nat) (K : St → Prop) (st : St) : Prop :=
  match ops[i]? with
  | none => K st
  | some o =>
    if kindO esc m o == 3 then opg P n esc ops o K st
    else if kindO esc m o == 5 then newE P n o K st
    else if kindO esc m o == 2 && m then ∃ S, May P n ops o st S ∧ ∀ r M', S r M' → K ((setD st o.dst r).withM M')
    else ∃ v b, Det P n esc ops m i o st v b ∧ K (act st (dstE esc o) v b)

/-- Neither looks at what the other one turns. -/
def apartE (esc : Nat → Bool) (ops : Array Oper) (x y : Oper) : Bool :=
  ((dstE esc x).all fun d => !(y.looksAt ops).contains d && dstE esc y != some d) && ((dstE esc y).all fun d => !(x.looksAt ops).contains d)

theorem apartE_spec {esc : Nat → Bool} {ops : Array Oper} {x y : Oper} (h : apartE esc ops x y = true) :
    (∀ d, dstE esc x = some d → d ∉ y.looksAt ops) ∧ (∀ d, dstE esc x = some d → dstE esc y ≠ some d) ∧ (∀ d, dstE esc y = some d → d ∉ x.looksAt ops) := by
  simp only [apartE, Bool.and_eq_true] at h
  obtain ⟨h1, h2⟩ := h
  refine ⟨fun d hd => ?_, fun d hd => ?_, fun d hd => ?_⟩
  · rw [hd] at h1; simp at h1; exact h1.1
  · rw [hd] at h1; simp at h1; exact h1.2
  · rw [hd] at h2; simpa using h2

/-- May operations i and j change places? -/
def indB (esc : Nat → Bool) (ops : Array Oper) (m : Bool) (i j : Nat) : Bool :=
  match ops[i]?, ops[j]? with
  | some oi, some oj =>
    apartE esc ops oi oj && ((dstE esc oi).all fun d => (badD esc ops j).contains d) && ((dstE esc oj).all fun d => (badD esc ops i).contains d) &&
    (match kindO esc m oi, kindO esc m oj with
     | 0, 0 | 0, 1 | 1, 0 | 1, 1 => true
     | 0, 2 => !m || blindB esc m ops i
     | 2, 0 => !m || blindB esc m ops j
     | 1, 2 | 2, 1 => true
     | 2, 2 => !m
     | 0, 5 => oi.guard.isNone
     | _, _ => false)
  | _, _ => false

section
variable {P : Program} {n : Nat} {esc : Nat → Bool} {ops : Array Oper} {m : Bool}

theorem opv_upd {fr : Nat → V} {d : Nat} {v : V} {x : Operand} (h : x ≠ .tmp d) : opv (upd fr d v) x = opv fr x := by
  cases x with
  | tmp t =>
    have : t ≠ d := fun e => h (by rw [e])
    simp [opv, upd, this]
  | _ => rfl

theorem opvs_upd {fr : Nat → V} {d : Nat} {v : V} : ∀ {xs : List Operand}, (∀ x ∈ xs, x ≠ .tmp d) → opvs (upd fr d v) xs = opvs fr xs
  | [], _ => rfl
  | x :: xs, h => by
    simp only [opvs]
    rw [opv_upd (h x (by simp)), opvs_upd (fun y hy => h y (by simp [hy]))]

theorem fillV_upd {t : TypeId} {fr : Nat → V} {d : Nat} {v : V} : ∀ {ps : List (Nat × Operand)} {cs : List V}, (∀ p ∈ ps, p.2 ≠ .tmp d) → fillV P t (upd fr d v) ps cs = fillV P t fr ps cs
  | [], cs, _ => rfl
  | (i, x) :: ps, cs, h => by
    have e : opv (upd fr d v) x = opv fr x := opv_upd (h (i, x) (by simp))
    have ih : ∀ cs, fillV P t (upd fr d v) ps cs = fillV P t fr ps cs := fun cs => fillV_upd (fun p hp => h p (by simp [hp]))
    simp only [fillV, e, ih]

theorem boundV_upd {fr : Nat → V} {d : Nat} {v : V} {x : Option Operand} (h : ∀ y, x = some y → y ≠ .tmp d) : boundV (upd fr d v) x = boundV fr x := by
  cases x with
  | none => rfl
  | some y => simp only [boundV]; rw [opv_upd (h y rfl)]

theorem callV_upd {fr : Nat → V} {d : Nat} {v : V} {c : Call} (h : ∀ x ∈ c.operands, x ≠ .tmp d) : callV (upd fr d v) c = callV fr c := by
  unfold callV
  cases hc : c.callee with
  | value f =>
    simp only
    rw [opv_upd (h f (by simp [Call.operands, hc])), opvs_upd (fun x hx => h x (by simp [Call.operands, hc]; right; simpa using hx))]
  | _ => rfl

theorem loadA_upd {M : Heap} {fr : Nat → V} {d : Nat} {v a : V} {T : TI} (h : ∀ s g off, a = .lref s g off → s ≠ d) : loadA M (upd fr d v) T a = loadA M fr T a := by
  cases a <;> simp only [loadA]
  case lref s g off => simp [upd, h s g off rfl]

theorem evalQ_upd {M : Heap} {fr : Nat → V} {d : Nat} {v : V} {op : Op} (h : ∀ x ∈ op.operands, x ≠ .tmp d) (hr : ∀ s, reads fr op = some s → s ≠ d) : evalQ P M (upd fr d v) op = evalQ P M fr op := by
  cases op <;> simp only [evalQ] <;> simp only [Op.operands] at h
  case move x => rw [opv_upd (h x (by simp))]
  case assign x => rw [opv_upd (h x (by simp))]
  case pick c a b => rw [opv_upd (h c (by simp)), opv_upd (h a (by simp)), opv_upd (h b (by simp))]
  case build t ps =>
    have hh : ∀ z, fillV P t (upd fr d v) ps.toList z = fillV P t fr ps.toList z := fun z => fillV_upd (fun p hp => h p.2 (by simp; exact ⟨p.1, by simpa using hp⟩))
    simp only [buildV, hh]
  case load t a =>
    rw [opv_upd (h a (by simp))]
    split
    · rename_i T g u hT ho
      rw [loadA_upd (fun s g' off e => hr s (by simp only [reads, ho, e]))]
    · rfl
  case binOp op t x y ty => rw [opv_upd (h x (by simp)), opv_upd (h y (by simp))]
  case unOp op t x => rw [opv_upd (h x (by simp))]
  case convert s t x => rw [opv_upd (h x (by simp))]
  case fieldAddr t x f => rw [opv_upd (h x (by simp))]
  case field t x f => rw [opv_upd (h x (by simp))]
  case indexAddr t x i => rw [opv_upd (h x (by simp)), opv_upd (h i (by simp))]
  case index t x i => rw [opv_upd (h x (by simp)), opv_upd (h i (by simp))]
  case slice t x lo hi mx =>
    cases mx with
    | none =>
      simp only
      rw [opv_upd (h x (by simp)), boundV_upd (fun y e => h y (by simp [e])), boundV_upd (fun y e => h y (by simp [e]))]
    | some z => simp only; rw [opv_upd (h x (by simp)), boundV_upd (fun y e => h y (by simp [e])), boundV_upd (fun y e => h y (by simp [e])), boundV_upd (fun y e => h y (by cases e; simp))]
  case lookup t x k ok => rw [opv_upd (h x (by simp)), opv_upd (h k (by simp))]
  case extract x i => rw [opv_upd (h x (by simp))]
  case makeFunc f first cap => rw [opvs_upd (fun x hx => h x (by simp at hx ⊢; exact .inl hx)), opvs_upd (fun x hx => h x (by simp at hx ⊢; exact .inr hx))]
  case makeInterface t x => rw [opv_upd (h x (by simp))]
  case nilCheck x => rw [opv_upd (h x (by simp))]
  case call c =>
    obtain ⟨cal, args, ts⟩ := c
    cases cal with
    | builtin b =>
      cases b <;> try rfl
      · simp only
        cases h0 : args[0]? with
        | none => rfl
        | some x =>
          have hx : x ∈ args := Array.mem_of_getElem? h0
          cases ts[0]? with
          | none => rfl
          | some t => simp only; rw [opv_upd (h x (by simp [Call.operands, hx]))]
      · simp only
        cases h0 : args[0]? with
        | none => rfl
        | some x =>
          have hx : x ∈ args := Array.mem_of_getElem? h0
          cases ts[0]? with
          | none => rfl
          | some t => simp only; rw [opv_upd (h x (by simp [Call.operands, hx]))]
      · simp only
        cases hl : args.toList with
        | nil => rfl
        | cons x l =>
          cases l with
          | nil => rfl
          | cons y l =>
            cases l with
            | nil =>
              have hx : x ∈ args := by rw [← Array.mem_toList_iff, hl]; simp
              have hy : y ∈ args := by rw [← Array.mem_toList_iff, hl]; simp
              simp only
              rw [opv_upd (h x (by simp [Call.operands, hx])), opv_upd (h y (by simp [Call.operands, hy]))]
            | cons z l => rfl
      · simp only
        cases hl : args.toList with
        | nil => rfl
        | cons x l =>
          cases l with
          | nil => rfl
          | cons y l =>
            cases l with
            | nil =>
              have hx : x ∈ args := by rw [← Array.mem_toList_iff, hl]; simp
              have hy : y ∈ args := by rw [← Array.mem_toList_iff, hl]; simp
              simp only
              rw [opv_upd (h x (by simp [Call.operands, hx])), opv_upd (h y (by simp [Call.operands, hy]))]
            | cons z l => rfl
    | value f => rfl
    | invoke r mth => rfl

theorem loadA_blind {M : Heap} {fr : Nat → V} {T : TI} {a : V} {r : Prop × V} (h : loadA emptyH fr T a = some r) : loadA M fr T a = some r := by
  cases a <;> simp only [loadA, emptyH] at h ⊢ <;> first | exact h | (simp at h)

theorem mapKVs_blind {M : Heap} {m : V} {r : List (V × V)} (h : mapKVs emptyH m = some r) : mapKVs M m = some r := by
  cases m <;> simp only [mapKVs, emptyH] at h ⊢ <;> first | exact h | (simp at h)

theorem evalQ_blind {M : Heap} {fr : Nat → V} {op : Op} {r : Prop × V} (h : evalQ P emptyH fr op = some r) : evalQ P M fr op = some r := by
  cases op <;> simp only [evalQ] at h ⊢ <;> try exact h
  case load t a =>
    split at h
    · rename_i T g u hT ho
      split at h
      · rename_i g' u' hl
        rw [loadA_blind hl]; exact h
      · simp at h
    · simp at h
  case slice t x lo hi mx => cases mx <;> exact h
  case lookup t x k ok =>
    split at h
    · rename_i g u g' u' h1 h2
      split at h
      · rename_i v' hl
        have : lookupV P M t u u' ok = some v' := by
          unfold lookupV at hl ⊢
          split at hl <;> try (simp at hl; done)
          split at hl <;> try (simp at hl; done)
          rename_i hd hkv
          rw [mapKVs_blind hkv]
          simp only [hd]
          exact hl
        rw [this]; exact h
      · simp at h
    · simp at h
  case call c =>
    obtain ⟨cal, args, ts⟩ := c
    cases cal with
    | builtin b =>
      cases b <;> try exact h
      simp only at h ⊢
      split at h
      · split at h <;> try exact h
        rename_i g mm k e _ _ _ _
        split at h
        · rename_i kvs hkv
          rw [mapKVs_blind hkv]; exact h
        · simp at h
      · simp at h
    | value f => exact h
    | invoke r mth => exact h
/-- A heap with more on it. -/
def More (M M' : Heap) : Prop := ∀ o x, M o = some x → M' o = some x

theorem loadA_more {M M' : Heap} (hM : More M M') {fr : Nat → V} {T : TI} {a : V} {r : Prop × V} (h : loadA M fr T a = some r) : loadA M' fr T a = some r := by
  cases a <;> simp only [loadA] at h ⊢ <;> try exact h
  split at h <;> try (cases h; done)
  rename_i cs hcs
  rw [hM _ _ hcs]; exact h

theorem mapKVs_more {M M' : Heap} (hM : More M M') {m : V} {r : List (V × V)} (h : mapKVs M m = some r) : mapKVs M' m = some r := by
  cases m <;> simp only [mapKVs] at h ⊢ <;> try exact h
  split at h <;> try (cases h; done)
  rename_i kvs hkvs
  rw [hM _ _ hkvs]; exact h

theorem evalQ_more {M M' : Heap} (hM : More M M') {fr : Nat → V} {op : Op} {r : Prop × V} (h : evalQ P M fr op = some r) : evalQ P M' fr op = some r := by
  cases op <;> simp only [evalQ] at h ⊢ <;> try exact h
  case load t a =>
    split at h
    · rename_i T g u hT ho
      split at h
      · rename_i g' u' hl
        rw [loadA_more hM hl]; exact h
      · simp at h
    · simp at h
  case slice t x lo hi mx => cases mx <;> exact h
  case lookup t x k ok =>
    split at h
    · rename_i g u g' u' h1 h2
      split at h
      · rename_i v' hl
        have : lookupV P M' t u u' ok = some v' := by
          unfold lookupV at hl ⊢
          split at hl <;> try (simp at hl; done)
          split at hl <;> try (simp at hl; done)
          rename_i hd hkv
          rw [mapKVs_more hM hkv]
          simp only [hd]
          exact hl
        rw [this]; exact h
      · simp at h
    · simp at h
  case call c =>
    obtain ⟨cal, args, ts⟩ := c
    cases cal with
    | builtin b =>
      cases b <;> try exact h
      simp only at h ⊢
      split at h
      · split at h <;> try exact h
        rename_i g mm k e _ _ _ _
        split at h
        · rename_i kvs hkv
          rw [mapKVs_more hM hkv]; exact h
        · simp at h
      · simp at h
    | value f => exact h
    | invoke r mth => exact h

theorem newC_upd {fr : Nat → V} {d : Nat} {v : V} {op : Op} (h : ∀ x ∈ op.operands, x ≠ .tmp d) : newC P (upd fr d v) op = newC P fr op := by
  cases op <;> simp only [newC] <;> simp only [Op.operands] at h
  case box t x => rw [opv_upd (h x (by simp))]
end
end Go.Eng

/- The engine, part 13: places changed, in a region that draws its order; its soundness. -/
namespace Go.Eng
set_option linter.unusedSimpArgs false
set_option linter.unusedVariables false

section
variable {P : Program} {n : Nat} {esc : Nat → Bool} {ops : Array Oper} {m : Bool}

theorem looks_op {o : Oper} {d : Nat} (h : d ∉ o.looksAt ops) : ∀ x ∈ o.op.operands, x ≠ .tmp d := by
  intro x hx e; subst e
  apply h
  simp only [Oper.looksAt, List.mem_append, List.mem_filterMap]
  exact .inl ⟨.tmp d, by simpa using hx, rfl⟩

theorem guardC_upd {fr : Nat → V} {o : Oper} {d : Nat} {v : V} (h : d ∉ o.looksAt ops) : guardC ops (upd fr d v) o.guard = guardC ops fr o.guard := by
  cases hg : o.guard with
  | none => rfl
  | some gd =>
    obtain ⟨j, want⟩ := gd
    simp only [guardC, guardOf]
    cases hj : ops[j]? with
    | none => rfl
    | some oj =>
      simp only
      cases hd : oj.dst with
      | none => rfl
      | some e =>
        have : e ≠ d := by
          intro he; subst he
          apply h
          simp only [Oper.looksAt, List.mem_append]
          right
          simp [hg, hj, hd]
        simp [upd, this]

theorem reads_upd {fr : Nat → V} {o : Oper} {d : Nat} {v : V} (h : d ∉ o.looksAt ops) : reads (upd fr d v) o.op = reads fr o.op := by
  have hx := looks_op h
  cases ho : o.op <;> simp only [reads] <;> rw [ho] at hx
  case load t a => rw [opv_upd (hx a (by simp [Op.operands]))]

/-- What an operation comes to does not hang on a slot that it doesn't look at, nor (where it is blind) on the heap. -/
theorem Det.same {i : Nat} {o : Oper} {st st' : St} {v : V} {b : Bool} (hM : st'.M = st.M ∨ (kindO esc m o = 0 ∧ m = true ∧ blindB esc m ops i = true) ∨ kindO esc m o = 1)
    (hg : guardC ops st'.fr o.guard = guardC ops st.fr o.guard) (hr : reads st'.fr o.op = reads st.fr o.op) (hq : safe st.fr (badD esc ops i) o.op → ∀ M, evalQ P M st'.fr o.op = evalQ P M st.fr o.op)
    (ho : ∀ x ∈ o.op.operands, opv st'.fr x = opv st.fr x) (hc : ∀ cl, o.op = .call cl → callV st'.fr cl = callV st.fr cl) (hgen : ∀ d, o.dst = some d → st'.gen d = st.gen d) (hfs : ∀ t s x, o.op = .store t (.tmp s) x → st'.fr s = st.fr s) (h : Det P n esc ops m i o st v b) : Det P n esc ops m i o st' v b := by
  unfold Det at h ⊢
  refine ⟨h.1, ?_⟩
  have h2 := h.2
  clear h
  split at h2
  · rename_i hk
    have hs : safe st'.fr (badD esc ops i) o.op ↔ safe st.fr (badD esc ops i) o.op := by simp only [safe, hr]
    have hMM : (if m && blindB esc m ops i then emptyH else st'.M) = (if m && blindB esc m ops i then emptyH else st.M) := by
      rcases hM with hM | ⟨_, h1, h2⟩ | hM
      · rw [hM]
      · subst h1; rw [h2]; rfl
      · rw [hk] at hM; cases hM
    split at h2 <;> try (exact h2.elim)
    · rename_i c need u hg' he
      have hsafe := h2.2.1
      rw [hMM, hg, hq hsafe]
      simp only [hg', he]
      rw [hs]; exact h2
    · rename_i c hg' he
      have hsafe := h2.2.2.1
      rw [hMM, hg, hq hsafe]
      simp only [hg', he]
      rw [hs]; exact h2
  · rename_i hk
    split at h2 <;> try (exact h2.elim)
    · rename_i t x d hop hdst
      rw [hop] at ho
      rw [ho x (by simp [Op.operands]), hgen d hdst]
      exact h2
    · rename_i t d hop hdst
      rw [hgen d hdst]
      exact h2
    · rename_i t s x hop hdst
      rw [hop] at ho
      rw [ho x (by simp [Op.operands]), hfs t s x hop]
      exact h2
  · rename_i hk
    split at h2 <;> try (exact h2.elim)
    rename_i c cl hg' hop
    rw [hg]
    simp only [hg', hop]
    rw [hc cl hop]
    have hMM : st'.M = st.M := by
      rcases hM with hM | ⟨h0, _⟩ | h1
      · exact hM
      · rw [hk] at h0; cases h0
      · rw [hk] at h1; cases h1
    rw [hMM]; exact h2
  · exact h2.elim

theorem Det.act {i : Nat} {o : Oper} {od : Option Nat} {st : St} {v v' : V} {b b' : Bool} (h1 : ∀ d, od = some d → d ∉ o.looksAt ops) (h2 : ∀ d, od = some d → dstE esc o ≠ some d) (h3 : ∀ d, od = some d → d ∈ badD esc ops i) :
    Det P n esc ops m i o (act st od v' b') v b ↔ Det P n esc ops m i o st v b := by
  cases hd : od with
  | none => simp [Eng.act]
  | some d =>
    have k1 := h1 d hd
    have k2 := h2 d hd
    have k3 := h3 d hd
    have e0 : (Eng.act st (some d) v' b').M = st.M := rfl
    have e1 : (Eng.act st (some d) v' b').fr = upd st.fr d v' := rfl
    have hgen : ∀ e, o.dst = some e → (Eng.act st (some d) v' b').gen e = st.gen e := fun e he => by
      have : e ≠ d := fun hh => k2 (by rw [← hh]; unfold dstE; rw [he])
      simp only [Eng.act]
      split
      · simp [bump, this]
      · rfl
    have hsafe : ∀ {fr : Nat → V}, safe fr (badD esc ops i) o.op → ∀ s, reads fr o.op = some s → s ≠ d := fun hs s hr e => hs s hr (e ▸ k3)
    constructor
    · intro h
      refine Det.same (.inl e0.symm) (by rw [e1]; exact (guardC_upd k1).symm) (by rw [e1]; exact (reads_upd k1).symm) (fun hs M => ?_) (fun x hx => by rw [e1]; exact (opv_upd (looks_op k1 x hx)).symm) (fun cl hcl => by rw [e1]; exact (callV_upd (fun x hx => looks_op k1 x (by rw [hcl]; exact hx))).symm) (fun e he => (hgen e he).symm) (fun t s x hop => by rw [e1]; have : s ≠ d := fun e => looks_op k1 (.tmp s) (by rw [hop]; simp [Op.operands]) (by rw [e]); simp [upd, this]) h
      rw [e1] at hs ⊢
      have hs' : safe st.fr (badD esc ops i) o.op := by simpa only [safe, reads_upd k1] using hs
      exact (evalQ_upd (looks_op k1) (hsafe hs')).symm
    · intro h
      refine Det.same (.inl e0) (by rw [e1]; exact guardC_upd k1) (by rw [e1]; exact reads_upd k1) (fun hs M => ?_) (fun x hx => by rw [e1]; exact opv_upd (looks_op k1 x hx)) (fun cl hcl => by rw [e1]; exact callV_upd (fun x hx => looks_op k1 x (by rw [hcl]; exact hx))) hgen (fun t s x hop => by rw [e1]; have : s ≠ d := fun e => looks_op k1 (.tmp s) (by rw [hop]; simp [Op.operands]) (by rw [e]); simp [upd, this]) h
      rw [e1]
      exact evalQ_upd (looks_op k1) (hsafe hs)

theorem Det.heap {i : Nat} {o : Oper} {st : St} {M' : Heap} {v : V} {b : Bool} (hM : (kindO esc m o = 0 ∧ m = true ∧ blindB esc m ops i = true) ∨ kindO esc m o = 1) :
    Det P n esc ops m i o (st.withM M') v b ↔ Det P n esc ops m i o st v b := by
  constructor
  · exact Det.same (st := st.withM M') (.inr hM) rfl rfl (fun _ _ => rfl) (fun _ _ => rfl) (fun _ _ => rfl) (fun _ _ => rfl) (fun _ _ _ _ => rfl)
  · exact Det.same (.inr hM) rfl rfl (fun _ _ => rfl) (fun _ _ => rfl) (fun _ _ => rfl) (fun _ _ => rfl) (fun _ _ _ _ => rfl)

theorem Det.one {i : Nat} {o : Oper} {st : St} {v v' : V} {b b' : Bool} (hk : kindO esc m o = 0 ∨ kindO esc m o = 1) (h : Det P n esc ops m i o st v b) (h' : Det P n esc ops m i o st v' b') : v = v' ∧ b = b' := by
  have h2 := h.2
  have h2' := h'.2
  rcases hk with hk | hk <;> simp only [hk] at h2 h2'
  · split at h2 <;> try (exact h2.elim)
    · rename_i c need u hg he
      simp only [hg, he] at h2'
      exact ⟨h2.2.2.1.trans h2'.2.2.1.symm, h2.2.2.2.trans h2'.2.2.2.symm⟩
    · rename_i c hg he
      simp only [hg, he] at h2'
      exact ⟨h2.2.2.2.1.trans h2'.2.2.2.1.symm, h2.2.2.2.2.trans h2'.2.2.2.2.symm⟩
  · split at h2 <;> try (exact h2.elim)
    · rename_i t x d hop hdst
      simp only [hop, hdst] at h2'
      split at h2 <;> try (exact h2.elim)
      rename_i g u ho
      simp only [ho] at h2'
      exact ⟨h2.2.2.1.trans h2'.2.2.1.symm, h2.2.2.2.trans h2'.2.2.2.symm⟩
    · rename_i t d hop hdst
      simp only [hop, hdst] at h2'
      split at h2 <;> try (exact h2.elim)
      rename_i z hz
      simp only [hz] at h2'
      exact ⟨h2.1.trans h2'.1.symm, h2.2.trans h2'.2.symm⟩
    · rename_i t s x hop hdst
      simp only [hop, hdst] at h2'
      split at h2 <;> try (exact h2.elim)
      rename_i T g u g' cs h3 h4 h5
      simp only [h3, h4, h5] at h2'
      exact ⟨h2.2.2.2.2.2.1.trans h2'.2.2.2.2.2.1.symm, h2.2.2.2.2.2.2.trans h2'.2.2.2.2.2.2.symm⟩

theorem May.act {o : Oper} {od : Option Nat} {st : St} {v' : V} {b' : Bool} {S : V → Heap → Prop} (h1 : ∀ d, od = some d → d ∉ o.looksAt ops) : May P n ops o (act st od v' b') S ↔ May P n ops o st S := by
  cases hd : od with
  | none => simp [Eng.act]
  | some d =>
    have k1 := h1 d hd
    have e0 : (Eng.act st (some d) v' b').M = st.M := rfl
    have e1 : (Eng.act st (some d) v' b').fr = upd st.fr d v' := rfl
    unfold May
    rw [e0, e1, guardC_upd k1]
    have hcl : ∀ cl, o.op = .call cl → callV (upd st.fr d v') cl = callV st.fr cl := fun cl hop => callV_upd (fun x hx => looks_op k1 x (by rw [hop]; exact hx))
    cases hop : o.op <;> try exact Iff.rfl
    case call cl => simp only [hcl cl hop]
    case store t a x =>
      have ha : opv (upd st.fr d v') a = opv st.fr a := opv_upd (looks_op k1 a (by rw [hop]; simp [Op.operands]))
      have hx : opv (upd st.fr d v') x = opv st.fr x := opv_upd (looks_op k1 x (by rw [hop]; simp [Op.operands]))
      simp only [ha, hx]

theorem upd_comm (fr : Nat → V) {d e : Nat} (v u : V) (h : d ≠ e) : upd (upd fr d v) e u = upd (upd fr e u) d v := by
  funext s
  simp only [upd]
  split <;> split <;> first | rfl | (exfalso; omega)

theorem act_comm (st : St) {x y : Option Nat} (v u : V) (b c : Bool) (h : ∀ d, x = some d → y ≠ some d) : act (act st x v b) y u c = act (act st y u c) x v b := by
  cases x with
  | none => rfl
  | some d =>
    cases y with
    | none => rfl
    | some e =>
      have hne : d ≠ e := fun hh => h d rfl (by rw [hh])
      simp only [act]
      rw [upd_comm st.fr v u hne]
      congr 1
      cases b <;> cases c <;> simp only [if_true, if_false, Bool.false_eq_true]
      · funext s
        simp only [bump]
        by_cases h1 : s = e
        · subst h1; simp [Ne.symm hne]
        · simp [h1, hne]

theorem dstE_of2 {o : Oper} (h : kindO esc m o = 2) : dstE esc o = o.dst := by
  unfold dstE
  cases hd : o.dst with
  | some d => rfl
  | none =>
    simp only
    cases ho : ownSt esc o with
    | none => rfl
    | some s =>
      exfalso
      have hop : ∃ t a x, o.op = .store t a x := by
        unfold ownSt at ho
        split at ho
        · rename_i h1 _ _; exact ⟨_, _, _, h1⟩
        · cases ho
      obtain ⟨t, a, x, hop⟩ := hop
      unfold kindO at h
      simp only [hop, ho] at h
      cases h

theorem opd_swap {i j : Nat} (h : indB esc ops m i j = true) : Swap (opd P n esc ops m) i j := by
  intro K st H
  unfold indB at h
  split at h <;> try (simp at h; done)
  rename_i oi oj hi hj
  simp only [Bool.and_eq_true] at h
  obtain ⟨⟨⟨hap, hbi⟩, hbj⟩, hkk⟩ := h
  obtain ⟨a1, a2, a3⟩ := apartE_spec hap
  have b1 : ∀ d, dstE esc oi = some d → d ∈ badD esc ops j := fun d hd => by rw [hd] at hbi; simpa using hbi
  have b2 : ∀ d, dstE esc oj = some d → d ∈ badD esc ops i := fun d hd => by rw [hd] at hbj; simpa using hbj
  have a2' : ∀ d, dstE esc oj = some d → dstE esc oi ≠ some d := fun d hd e => a2 d e hd
  by_cases h5 : kindO esc m oi = 5 ∨ kindO esc m oj = 5
  · have e5 : kindO esc m oi = 0 ∧ kindO esc m oj = 5 ∧ oi.guard = none := by
      rcases h5 with h5 | h5
      · rw [h5] at hkk; simp at hkk
      · rw [h5] at hkk
        cases hq : kindO esc m oi with
        | zero => rw [hq] at hkk; refine ⟨rfl, h5, ?_⟩; simpa using hkk
        | succ q =>
          cases q with
          | zero => rw [hq] at hkk; simp at hkk
          | succ q =>
            cases q with
            | zero => rw [hq] at hkk; simp at hkk
            | succ q => rw [hq] at hkk; simp at hkk
    obtain ⟨k0, k5, hgn⟩ := e5
    have f0 : ∀ (st : St) (K : St → Prop), opd P n esc ops m i K st = (∃ v b, Det P n esc ops m i oi st v b ∧ K (act st (dstE esc oi) v b)) := by
      intro st K
      unfold opd
      simp only [hi, k0]
      rfl
    have f5 : ∀ (st : St) (K : St → Prop), opd P n esc ops m j K st = newE P n oj K st := by
      intro st K
      unfold opd
      simp only [hj, k5]
      rfl
    rw [f0] at H
    obtain ⟨v, b, ⟨hlt, hv⟩, H⟩ := H
    rw [f5] at H ⊢
    simp only [k0, hgn, guardC] at hv
    split at hv
    · rename_i c need u hc he
      cases hc
      obtain ⟨q1, q2, q3, rfl⟩ := hv
      obtain ⟨q4, q5⟩ := H
      have hfr : ∀ st : St, ∀ v, newC P (act st (dstE esc oi) v false).fr oj.op = newC P st.fr oj.op := by
        intro st v
        cases hdi : dstE esc oi with
        | none => rfl
        | some d => exact newC_upd (looks_op (a1 d hdi))
      rw [hfr] at q5
      cases hdj : oj.dst with
      | none => rw [hdj] at q5; exact q5.elim
      | some dj =>
        have hdj' : dstE esc oj = some dj := by unfold dstE; rw [hdj]
        rw [hdj] at q5
        split at q5 <;> try (exact q5.elim)
        rename_i d2 g cs hd2 hcs
        cases hd2
        obtain ⟨hg, N, hN, hK⟩ := q5
        have hMN : (act st (dstE esc oi) v false).M = st.M := by cases dstE esc oi <;> rfl
        rw [hMN] at hN hK
        refine ⟨q4, ?_⟩
        simp only [hdj, hcs]
        refine ⟨hg, N, hN, ?_⟩
        rw [f0]
        have hne : ∀ s, reads st.fr oi.op = some s → s ≠ dj := fun s hs e => q2 s hs (e ▸ b2 dj hdj')
        have hlk := looks_op (a3 dj hdj')
        refine ⟨v, false, ⟨hlt, ?_⟩, ?_⟩
        · simp only [k0, hgn, guardC]
          have hmore : More st.M (updH st.M N (.cells cs)) := by
            intro o x hx
            simp only [updH]
            split
            · subst_vars; rw [hN] at hx; cases hx
            · exact hx
          have he' : evalQ P (if m && blindB esc m ops i then emptyH else updH st.M N (.cells cs)) (upd st.fr dj (.ptr N 0)) oi.op = some (need, u) := by
            rw [evalQ_upd hlk hne]
            split
            · rename_i hb; rw [if_pos hb] at he; exact he
            · rename_i hb; rw [if_neg hb] at he; exact evalQ_more hmore he
          rw [he']
          refine ⟨q1, ?_, q3, trivial⟩
          simp only [safe, reads_upd (a3 dj hdj')]
          exact q2
        · cases hdi : dstE esc oi with
          | none => rw [hdi] at hK; exact hK
          | some d =>
            rw [hdi] at hK
            have hdd : d ≠ dj := fun e => a2 d hdi (by rw [hdj', e])
            have e1 := upd_comm st.fr v (.ptr N 0) hdd
            simp only [act] at hK ⊢
            rw [← e1]
            exact hK
    · rename_i c hc he
      cases hc
      cases hv.1
    · exact hv.elim
  have hi5 : kindO esc m oi ≠ 5 := fun e => h5 (.inl e)
  have hj5 : kindO esc m oj ≠ 5 := fun e => h5 (.inr e)
  -- which forms?
  have hform : ∀ (k : Nat) (o : Oper) (st : St) (K : St → Prop), ops[k]? = some o → (kindO esc m o ≠ 3 ∧ kindO esc m o ≠ 5) → opd P n esc ops m k K st =
      (if kindO esc m o == 2 && m then ∃ S, May P n ops o st S ∧ ∀ r M', S r M' → K ((setD st o.dst r).withM M') else ∃ v b, Det P n esc ops m k o st v b ∧ K (act st (dstE esc o) v b)) := by
    intro k o st K hk hne
    unfold opd
    simp only [hk]
    rw [if_neg (by simpa using hne.1), if_neg (by simpa using hne.2)]
  have hi3 : kindO esc m oi ≠ 3 := by intro e; rw [e] at hkk; simp at hkk
  have hj3 : kindO esc m oj ≠ 3 := by
    intro e; rw [e] at hkk
    cases hq : kindO esc m oi with
    | zero => rw [hq] at hkk; simp at hkk
    | succ q =>
      cases q with
      | zero => rw [hq] at hkk; simp at hkk
      | succ q =>
        cases q with
        | zero => rw [hq] at hkk; simp at hkk
        | succ q => rw [hq] at hkk; simp at hkk
  have hi3 := And.intro hi3 hi5
  have hj3 := And.intro hj3 hj5
  rw [hform i oi _ _ hi hi3] at H
  rw [hform j oj _ _ hj hj3]
  -- a call that may write the heap, in a slot
  have hset : ∀ (st : St) (o : Oper) (r : V) (M' : Heap), kindO esc m o = 2 → (setD st o.dst r).withM M' = (act st (dstE esc o) r false).withM M' := by
    intro st o r M' hk; rw [dstE_of2 hk]; cases o.dst <;> rfl
  by_cases ci : (kindO esc m oi == 2 && m) = true <;> by_cases cj : (kindO esc m oj == 2 && m) = true
  · exfalso
    simp only [Bool.and_eq_true, beq_iff_eq] at ci cj
    obtain ⟨ci1, ci2⟩ := ci
    subst ci2
    rw [ci1, cj.1] at hkk
    simp at hkk
  · -- i may write, j is determined
    rw [if_pos ci] at H
    rw [if_neg cj]
    obtain ⟨S, hS, HK⟩ := H
    simp only [Bool.and_eq_true, beq_iff_eq] at ci
    have hj01 : (kindO esc m oj = 0 ∧ m = true ∧ blindB esc m ops j = true) ∨ kindO esc m oj = 1 := by
      obtain ⟨ci1, ci2⟩ := ci
      subst ci2
      rw [ci1] at hkk
      cases hq : kindO esc true oj with
      | zero => rw [hq] at hkk; simp at hkk; exact .inl ⟨rfl, rfl, hkk⟩
      | succ q =>
        cases q with
        | zero => exact .inr rfl
        | succ q => rw [hq] at hkk; revert hkk; split <;> simp_all
    have hdet : ∀ r M' v b, Det P n esc ops m j oj ((setD st oi.dst r).withM M') v b ↔ Det P n esc ops m j oj st v b := by
      intro r M' v b
      rw [hset _ _ _ _ ci.1, Det.heap hj01, Det.act a1 a2 b1]
    obtain ⟨r0, M0, hr0⟩ := hS.2.1
    have H0 := HK r0 M0 hr0
    rw [hform j oj _ _ hj hj3, if_neg cj] at H0
    obtain ⟨v, b, hv, _⟩ := H0
    rw [hdet] at hv
    refine ⟨v, b, hv, ?_⟩
    rw [hform i oi _ _ hi hi3, if_pos (by rw [ci.1]; simp [ci.2])]
    refine ⟨S, (May.act a3).2 hS, fun r M' hr => ?_⟩
    have H1 := HK r M' hr
    rw [hform j oj _ _ hj hj3, if_neg cj] at H1
    obtain ⟨v', b', hv', hK⟩ := H1
    rw [hdet] at hv'
    obtain ⟨rfl, rfl⟩ := Det.one (hj01.imp And.left id) hv hv'
    rw [hset _ _ _ _ ci.1] at hK
    rw [hset _ _ _ _ ci.1]
    have : act ((act st (dstE esc oi) r false).withM M') (dstE esc oj) v b = (act (act st (dstE esc oj) v b) (dstE esc oi) r false).withM M' := by
      rw [act_comm st v r b false a2']
      cases dstE esc oi <;> cases dstE esc oj <;> rfl
    rw [← this]; exact hK
  · -- i is determined, j may write
    rw [if_neg ci] at H
    rw [if_pos cj]
    obtain ⟨v, b, hv, H⟩ := H
    rw [hform j oj _ _ hj hj3, if_pos cj] at H
    obtain ⟨S, hS, HK⟩ := H
    simp only [Bool.and_eq_true, beq_iff_eq] at cj
    have hi01 : (kindO esc m oi = 0 ∧ m = true ∧ blindB esc m ops i = true) ∨ kindO esc m oi = 1 := by
      obtain ⟨cj1, cj2⟩ := cj
      subst cj2
      rw [cj1] at hkk
      cases hq : kindO esc true oi with
      | zero => rw [hq] at hkk; simp at hkk; exact .inl ⟨rfl, rfl, hkk⟩
      | succ q =>
        cases q with
        | zero => exact .inr rfl
        | succ q => rw [hq] at hkk; revert hkk; split <;> simp_all
    refine ⟨S, (May.act a1).1 hS, fun r M' hr => ?_⟩
    have hK := HK r M' hr
    rw [hform i oi _ _ hi hi3, if_neg ci]
    refine ⟨v, b, ?_, ?_⟩
    · rw [hset _ _ _ _ cj.1, Det.heap hi01, Det.act a3 a2' b2]; exact hv
    · rw [hset _ _ _ _ cj.1] at hK ⊢
      have : act ((act st (dstE esc oj) r false).withM M') (dstE esc oi) v b = (act (act st (dstE esc oi) v b) (dstE esc oj) r false).withM M' := by
        rw [act_comm st v r b false a2]
        cases dstE esc oi <;> cases dstE esc oj <;> rfl
      rw [this]; exact hK
  · -- both are determined
    rw [if_neg ci] at H
    rw [if_neg cj]
    obtain ⟨v, b, hv, H⟩ := H
    rw [hform j oj _ _ hj hj3, if_neg cj] at H
    obtain ⟨v', b', hv', hK⟩ := H
    rw [Det.act a1 a2 b1] at hv'
    refine ⟨v', b', hv', ?_⟩
    rw [hform i oi _ _ hi hi3, if_neg ci]
    refine ⟨v, b, (Det.act a3 a2' b2).2 hv, ?_⟩
    rw [← act_comm st v v' b b' a2]
    exact hK
end
end Go.Eng

/- The engine, part 14: code, functions, and that the model does what is said of them. -/
namespace Go.Eng
set_option linter.unusedSimpArgs false
set_option linter.unusedVariables false

section
variable {P : Program} {E0 E : Env} {w0 w : World} {n : Nat} {st : St} {a : Act} {esc : Nat → Bool} {K K' : St → Prop} {Q : Exit → Act → World → Prop} {ops : Array Oper} {m : Bool}

theorem newVarW_mono {dst : Option Nat} {cs : List V} (hK : ∀ s, K s → K' s) (h : newVarW esc st dst cs K) : newVarW esc st dst cs K' := by
  unfold newVarW at h ⊢
  split
  · exact h
  · simp only at h
    split
    · rename_i he; rw [if_pos he] at h; exact fun o ho => hK _ (h o ho)
    · rename_i he; rw [if_neg he] at h; exact hK _ h

theorem opw_mono {o : Oper} (hK : ∀ s, K s → K' s) (h : opw P esc o K st) : opw P esc o K' st := by
  unfold opw at h ⊢
  split at h
  · split at h <;> try (exact h.elim)
    exact ⟨h.1, h.2.1, newVarW_mono hK h.2.2⟩
  · split at h <;> try (exact h.elim)
    exact newVarW_mono hK h
  · split at h <;> try (exact h.elim)
    split at h <;> try (exact h.elim)
    obtain ⟨h1, h2, h3, h4, h5, h6, h7⟩ := h
    exact ⟨h1, h2, h3, h4, h5, h6, hK _ h7⟩
  · split at h <;> try (exact h.elim)
    split at h <;> try (exact h.elim)
    split at h <;> try (exact h.elim)
    obtain ⟨h1, h2, h3, h4, h5, h6⟩ := h
    exact ⟨h1, h2, h3, h4, h5, hK _ h6⟩
  · split at h <;> try (exact h.elim)
    exact fun ob ho => hK _ (h ob ho)
  · split at h <;> try (exact h.elim)
    exact ⟨h.1, hK _ h.2⟩
  · split at h <;> try (exact h.elim)
    exact ⟨fun hh => hK _ (h.1 hh), fun hh => hK _ (h.2 hh)⟩
  · split at h <;> try (exact h.elim)
    split at h <;> try (exact h.elim)
    split at h <;> try (exact h.elim)
    obtain ⟨h1, h2, h3, h4, h5, h6⟩ := h
    refine ⟨h1, h2, h3, h4, h5, ?_⟩
    split
    · rename_i he; rw [if_pos he] at h6; exact fun ob hob => hK _ (h6 ob hob)
    · rename_i he; rw [if_neg he] at h6; exact hK _ h6
  · split at h <;> try (exact h.elim)
    split at h <;> try (exact h.elim)
    split at h <;> try (exact h.elim)
    obtain ⟨h1, h2, h3, h4, h5, h6, h7, es, h8, h9, h10, h11⟩ := h
    exact ⟨h1, h2, h3, h4, h5, h6, h7, es, h8, h9, h10, fun v' M' q1 q2 q3 => hK _ (h11 v' M' q1 q2 q3)⟩
  · split at h <;> try (exact h.elim)
    split at h <;> try (exact h.elim)
    split at h <;> try (exact h.elim)
    split at h <;> try (exact h.elim)
    obtain ⟨h1, h2, h3, h4⟩ := h
    exact ⟨h1, h2, h3, hK _ h4⟩
  · split at h <;> try (exact h.elim)
    obtain ⟨h1, Post, h2, h3⟩ := h
    exact ⟨h1, Post, h2, fun r M' hp => hK _ (h3 r M' hp)⟩
  · split at h
    · exact ⟨h.1, hK _ h.2⟩
    · exact softEq_mono (fun b hb => hK _ hb) h

theorem pcall_mono {o : Oper} {c : Bool} {wr : V → V} (hK : ∀ s, K s → K' s) (h : pcall P c wr o K st) : pcall P c wr o K' st := by
  unfold pcall at h ⊢
  split
  · simp only [*] at h
    split at h <;> try (exact h.elim)
    obtain ⟨r, h1, h2⟩ := h
    exact ⟨r, h1, hK _ h2⟩
  · rename_i hne
    split at h
    · rename_i cl hcl; exact absurd hcl (hne cl)
    · exact h

theorem opg_mono {o : Oper} (hK : ∀ s, K s → K' s) (h : opg P n esc ops o K st) : opg P n esc ops o K' st := by
  unfold opg at h ⊢
  refine ⟨h.1, ?_⟩
  have h2 := h.2
  cases hg : o.guard with
  | none => simp only [hg] at h2 ⊢; exact opw_mono hK h2
  | some gd =>
    simp only [hg] at h2 ⊢
    cases hc : guardOf ops st.fr gd with
    | none => simp only [hc] at h2
    | some c =>
      simp only [hc] at h2 ⊢
      cases ha : isA o.op with
      | true =>
        simp only [ha] at h2 ⊢
        split
        · rename_i need v he; simp only [he] at h2; exact ⟨h2.1, hK _ h2.2⟩
        · rename_i he; simp only [he] at h2; exact ⟨h2.1, hK _ h2.2⟩
      | false =>
        simp only [ha] at h2 ⊢
        rcases h2 with h2 | h2
        · exact .inl ⟨fun e => opw_mono hK (h2.1 e), fun e => hK _ (h2.2 e)⟩
        · exact .inr (pcall_mono hK h2)

theorem newE_mono {o : Oper} (hK : ∀ s, K s → K' s) (h : newE P n o K st) : newE P n o K' st := by
  unfold newE at h ⊢
  refine ⟨h.1, ?_⟩
  have h2 := h.2
  split at h2 <;> try (exact h2.elim)
  obtain ⟨h3, N, h4, h5⟩ := h2
  exact ⟨h3, N, h4, hK _ h5⟩

theorem opd_mono (i : Nat) (K K' : St → Prop) (st : St) (hK : ∀ s, K s → K' s) (h : opd P n esc ops m i K st) : opd P n esc ops m i K' st := by
  unfold opd at h ⊢
  split
  · simp only [*] at h; exact hK _ h
  · rename_i o ho
    simp only [ho] at h
    split
    · rename_i hk; rw [if_pos hk] at h; exact opg_mono hK h
    · rename_i hk; rw [if_neg hk] at h
      split
      · rename_i hk; rw [if_pos hk] at h; exact newE_mono hK h
      rename_i hk; rw [if_neg hk] at h
      split
      · rename_i hk; rw [if_pos hk] at h; obtain ⟨S, h1, h2⟩ := h; exact ⟨S, h1, fun r M' hr => hK _ (h2 r M' hr)⟩
      · rename_i hk; rw [if_neg hk] at h; obtain ⟨v, b, h1, h2⟩ := h; exact ⟨v, b, h1, hK _ h2⟩

theorem kind3 {o : Oper} (h : kindO esc m o = 3) : (∃ t x y, o.op = .store t x y) ∨ ∃ t x y z, o.op = .mapUpdate t x y z := by
  unfold kindO at h
  split at h
  · split at h
    · split at h <;> cases h
    · cases h
  · split at h
    · split at h <;> cases h
    · cases h
  · cases h
  · rename_i t x y hop; exact .inl ⟨t, x, y, hop⟩
  · rename_i t x y z hop; exact .inr ⟨t, x, y, z, hop⟩
  · split at h <;> cases h

theorem opd_real (i : Nat) (st : St) : ¬ opd P n esc ops m i (fun _ => False) st := by
  intro h
  unfold opd at h
  split at h
  · exact h
  · rename_i o ho
    split at h
    · rename_i hk
      have hk : kindO esc m o = 3 := by simpa using hk
      have hw : ¬ opw P esc o (fun _ => False) st := by
        intro hw
        rcases kind3 hk with ⟨t, x, y, hop⟩ | ⟨t, x, y, z, hop⟩
        · unfold opw at hw; simp only [hop] at hw
          split at hw <;> try (exact hw.elim)
          split at hw <;> try (exact hw.elim)
          exact hw.2.2.2.2.2.2
        · unfold opw at hw; simp only [hop] at hw
          split at hw <;> try (exact hw.elim)
          split at hw <;> try (exact hw.elim)
          split at hw <;> try (exact hw.elim)
          exact hw.2.2.2.2.2
      have hA : isA o.op = false := by rcases kind3 hk with ⟨t, x, y, hop⟩ | ⟨t, x, y, z, hop⟩ <;> rw [hop] <;> rfl
      have hp : ∀ c wr, ¬ pcall P c wr o (fun _ => False) st := by
        intro c wr hp
        rcases kind3 hk with ⟨t, x, y, hop⟩ | ⟨t, x, y, z, hop⟩ <;> (unfold pcall at hp; simp only [hop] at hp)
      have h2 := h.2
      cases hg : o.guard with
      | none => simp only [hg] at h2; exact hw h2
      | some gd =>
        simp only [hg] at h2
        split at h2 <;> try (exact h2.elim)
        rename_i c hc
        simp only [hA] at h2
        rcases h2 with h2 | h2
        · cases c with
          | true => exact hw (h2.1 rfl)
          | false => exact h2.2 rfl
        · exact hp _ _ h2
    · split at h
      · have h2 := h.2
        split at h2 <;> try (exact h2.elim)
        obtain ⟨_, N, _, h5⟩ := h2
        exact h5
      split at h
      · obtain ⟨S, h1, h2⟩ := h
        obtain ⟨r, M', hr⟩ := h1.2.1
        exact h2 r M' hr
      · obtain ⟨v, b, _, h2⟩ := h; exact h2

theorem act_setD (st : St) (dst : Option Nat) (v : V) : act st dst v false = setD st dst v := by cases dst <;> rfl
theorem withM_setD (st : St) (dst : Option Nat) (v : V) (M' : Heap) : (setD st dst v).withM M' = setD { st with M := M' } dst v := by cases dst <;> rfl

theorem guardC_sound {o : Oper} {c : Bool} (hf : FR E w st.fr a.tmps) (h : guardC ops st.fr o.guard = some c) : Region.wanted o (yielded ops a.tmps) = c := by
  cases hg : o.guard with
  | none => simp only [guardC, hg] at h; cases h; simp [Region.wanted, hg]
  | some gd => rw [hg] at h; exact guardOf_sound hg hf h

theorem dstE_op {o : Oper} (h : ∀ t a x, o.op ≠ .store t a x) : dstE esc o = o.dst := by
  unfold dstE
  cases hd : o.dst with
  | some d => rfl
  | none =>
    simp only
    cases ho : ownSt esc o with
    | none => rfl
    | some s =>
      exfalso
      unfold ownSt at ho
      split at ho
      · rename_i h1 _ _; exact h _ _ _ h1
      · cases ho

theorem dstE_of0 {o : Oper} (hk : kindO esc m o = 0) : dstE esc o = o.dst := by
  refine dstE_op fun t a x hop => ?_
  unfold kindO at hk
  simp only [hop] at hk
  split at hk
  · cases hk
  · split at hk <;> cases hk

theorem dstE_some {o : Oper} {d : Nat} (h : o.dst = some d) : dstE esc o = some d := by unfold dstE; rw [h]

/-- A new variable on the heap, under a name that is free. -/
theorem newVarN_sound {o : Oper} (h : RSt E0 w0 n E w st a) {d : Nat} (hdst : o.dst = some d) (hd : d < n) {cs : List V} {arr : Array Value} {ty : TypeId} {N : Nat} (hN : st.M N = none)
    (hk : K ⟨upd st.fr d (.ptr N 0), updH st.M N (.cells cs), st.gen⟩) (hl : RL E w cs arr.toList) :
    Nxt E0 w0 n K (a.put o.dst (.pointer (some ⟨w.heap.size, 0, none⟩))) (w.alloc (.cells arr ty)) := by
  have hnone := h.dom N hN
  rw [hdst]
  have hg := grow_ob h.inv hnone (.cells arr ty)
  refine ⟨newOb E N w.heap.size, _, upd_dst h hd hg (inv_ob h.inv hnone _) (v := .ptr N 0) ?_ (M' := updH st.M N (.cells cs)) ?_ h.gens (dom_ob h.dom _ _ _), hk⟩
  · simp only [RS, R]; exact ⟨w.heap.size, by simp [newOb], rfl⟩
  · intro o' ho hM'
    simp only [updH] at hM'
    split at hM'
    · cases hM'; subst_vars
      exact ⟨w.heap.size, by simp [newOb], arr, ty, heap_new _, RL.later hg.later _ _ hl⟩
    · obtain ⟨b, hb, hr⟩ := (h.heap.grow hg) o' ho hM'
      exact ⟨b, hb, hr⟩

theorem newE_sound {o : Oper} (h : RSt E0 w0 n E w st a) (hk : newE P n o K st) : o.wp P a w (Nxt E0 w0 n K) Q := by
  obtain ⟨dst, op, type, pos, after, guard⟩ := o
  obtain ⟨hd, hk⟩ := hk
  simp only at hd hk
  unfold Oper.wp
  cases hdst : dst with
  | none => subst hdst; exact hk.elim
  | some d =>
  cases hcs : newC P st.fr op with
  | none => rw [hdst, hcs] at hk; exact hk.elim
  | some gc =>
  obtain ⟨g, cs⟩ := gc
  rw [hdst, hcs] at hk
  have hdn := dstLt_spec hd d hdst
  obtain ⟨hg, N, hN, hK⟩ := hk
  unfold newC at hcs
  split at hcs
  · rename_i t x
    split at hcs <;> try (cases hcs; done)
    rename_i g1 u hu
    simp only [Option.some.injEq, Prod.mk.injEq] at hcs
    obtain ⟨rfl, rfl⟩ := hcs
    have hx := (opv_sound hu hg.1 h.fr).of_tag (by omega)
    have := newVarN_sound (o := ⟨some d, .box t x, type, pos, after, guard⟩) (ty := t) (arr := (a.eval x).cells) h rfl hdn hN hK (R.cells' hg.2 hx)
    simp only [execOp, Instr.box, newVar, newRow, Sem.run_bind, run_newObj, Sem.run_pure, Result.andThen_ok, Oper.upon_value]
    exact this
  · rename_i t
    split at hcs <;> try (cases hcs; done)
    rename_i z hz
    simp only [Option.some.injEq, Prod.mk.injEq] at hcs
    obtain ⟨rfl, rfl⟩ := hcs
    obtain ⟨x, hx, hr⟩ := zeroV_sound (P := P) (E := E) (w := w) hz
    have hzt : z ≠ .any := by
      intro e; subst e
      unfold zeroV at hz
      split at hz
      · split at hz
        · split at hz <;> simp at hz
        · unfold constV at hz; split at hz <;> simp at hz
        · simp at hz
      · simp at hz
    have := newVarN_sound (o := ⟨some d, .alloc t, type, pos, after, guard⟩) (ty := t) (arr := x.cells) h rfl hdn hN hK (R.cells hzt hr)
    simp only [execOp, Instr.alloc, newVar, newRow, Sem.run_bind, hx, run_newObj, Sem.run_pure, Result.andThen_ok, Oper.upon_value]
    exact this
  · cases hcs

theorem kind5 {o : Oper} (h : kindO esc m o = 5) : o.guard = none := by
  unfold kindO at h
  split at h
  · split at h
    · assumption
    · cases h
  · split at h
    · assumption
    · cases h
  · cases h
  · split at h
    · cases h
    · split at h <;> cases h
  · cases h
  · split at h <;> cases h

theorem opd_sound {i : Nat} (h : RSt E0 w0 n E w st a) (hk : opd P n esc ops m i K st) : wpOp P ops Q i (Nxt E0 w0 n K) a w := by
  unfold opd at hk
  split at hk
  · rename_i hi; unfold wpOp; simp only [hi]; exact ⟨E, st, h, hk⟩
  rename_i o hi
  split at hk
  · exact opg_sound hi h hk
  rename_i hk3
  unfold wpOp
  simp only [hi]
  split at hk
  · rename_i hk5
    have hgn := kind5 (by simpa using hk5)
    have hw : Region.wanted o (yielded ops a.tmps) = true := by simp [Region.wanted, hgn]
    rw [if_pos hw]
    exact .inl (newE_sound h hk)
  split at hk
  · -- a call that may write the heap
    obtain ⟨S, hS, hK⟩ := hk
    obtain ⟨hd, _, hS⟩ := hS
    have hd := dstLt_spec hd
    split at hS
    case h_3 => exact hS.elim
    case h_2 =>
      -- a store into the heap
      rename_i t ad x hop
      obtain ⟨hgn, hS⟩ := hS
      split at hS <;> try (exact hS.elim)
      rename_i T g ob off g' v hT ha hx
      split at hS <;> try (exact hS.elim)
      rename_i cs hm
      obtain ⟨k1, k2, k3, k4, k5, k6, k7⟩ := hS
      have hw : Region.wanted o (yielded ops a.tmps) = true := by simp [Region.wanted, hgn]
      rw [if_pos hw]
      left
      refine opw_sound (esc := esc) h hd ?_
      unfold opw
      simp only [hop, hT, ha, hx, storeTo, hm]
      have := hK _ _ ((k7 _ _).2 ⟨rfl, rfl⟩)
      rw [withM_setD] at this
      exact ⟨k1, k2, k3, k4, k5, k6, this⟩
    rename_i cl hop
    split at hS <;> try (exact hS.elim)
    rename_i c hc
    rw [guardC_sound h.fr hc]
    cases c with
    | true =>
      rw [if_pos rfl]
      left
      have h1 := hS.1 rfl
      split at h1 <;> try (exact h1.elim)
      rename_i g id vs hcv
      obtain ⟨xs, hrun, hl⟩ := callV_sound (P := P) (w := w) (type := o.type) h.fr hcv h1.1
      unfold Oper.wp
      have : (execOp a.eval o).run P w = (callFunc id xs).run P w := by
        obtain ⟨dst, op, type, pos, after, guard⟩ := o
        simp only at hop; subst hop
        simp only [execOp]; exact hrun
      rw [this]
      exact call_sound (c := cl) h hd h1.2 hl (fun r M' hr => by rw [← withM_setD]; exact hK r M' hr)
    | false =>
      rw [if_neg (by simp)]
      have := hK (.tup []) st.M (((hS.2 rfl) _ _).2 ⟨rfl, rfl⟩)
      rw [withM_setD] at this
      exact ⟨E, _, h.put hd RS_tupnil, this⟩
  · obtain ⟨v, b, hv, hK⟩ := hk
    obtain ⟨hd, hv⟩ := hv
    have hd' := hd
    have hd := dstLt_spec hd
    split at hv
    · -- it leaves memory alone
      rename_i hk0
      rw [dstE_of0 hk0] at hK
      split at hv <;> try (exact hv.elim)
      · rename_i c need u hc he
        obtain ⟨k1, _, rfl, rfl⟩ := hv
        rw [act_setD] at hK
        have he' : evalQ P st.M st.fr o.op = some (need, u) := by
          split at he
          · exact evalQ_blind he
          · exact he
        rw [guardC_sound h.fr hc]
        cases c with
        | true =>
          rw [if_pos rfl]
          left
          obtain ⟨x, hx, hr⟩ := evalQ_sound (o := o) he' (k1 rfl) h.fr h.heap
          unfold Oper.wp
          rw [hx, Oper.upon_value]
          refine ⟨E, _, h.put hd (fun t => ?_), hK⟩
          cases hg : o.guard with
          | none => exact RS.of_RO hr
          | some gd => exact RS.whenT rfl hr
        | false =>
          rw [if_neg (by simp)]
          refine ⟨E, _, h.put hd (fun t => ?_), hK⟩
          cases hg : o.guard with
          | none => simp [guardC, hg] at hc
          | some gd => exact RS.whenF rfl
      · rename_i c hc he
        obtain ⟨rfl, _, _, rfl, rfl⟩ := hv
        rw [act_setD] at hK
        rw [guardC_sound h.fr hc, if_neg (by simp)]
        exact ⟨E, _, h.put hd RS_tupnil, hK⟩
    · -- a new variable
      rename_i hk1
      have hgn : o.guard = none ∧ ∀ d, o.dst = some d → esc d = false := by
        unfold kindO at hk1
        split at hk1
        · split at hk1
          · rename_i d hdd hg; split at hk1
            · cases hk1
            · rename_i he; exact ⟨hg, fun d' hd' => by rw [hdd] at hd'; cases hd'; simpa using he⟩
          · cases hk1
        · split at hk1
          · rename_i d hdd hg; split at hk1
            · cases hk1
            · rename_i he; exact ⟨hg, fun d' hd' => by rw [hdd] at hd'; cases hd'; simpa using he⟩
          · cases hk1
        · cases hk1
        · split at hk1
          · rename_i hop s hs
            have hs0 := hs
            unfold ownSt at hs
            split at hs
            · rename_i hd0 hg0; exact ⟨hg0, fun d hd' => by rw [hd0] at hd'; cases hd'⟩
            · cases hs
          · split at hk1 <;> cases hk1
        · cases hk1
        · split at hk1 <;> cases hk1
      have hw : Region.wanted o (yielded ops a.tmps) = true := by simp [Region.wanted, hgn.1]
      rw [if_pos hw]
      left
      refine opw_sound (esc := esc) h hd ?_
      split at hv <;> try (exact hv.elim)
      · rename_i t x d hop hdst
        split at hv <;> try (exact hv.elim)
        rename_i g u ho
        obtain ⟨k1, k2, rfl, rfl⟩ := hv
        unfold opw
        simp only [hop, ho, newVarW, hdst, hgn.2 d hdst]
        rw [dstE_some hdst] at hK
        exact ⟨k1, k2, by simpa [act, hdst] using hK⟩
      · rename_i t d hop hdst
        split at hv <;> try (exact hv.elim)
        rename_i z hz
        obtain ⟨rfl, rfl⟩ := hv
        unfold opw
        simp only [hop, hz, newVarW, hdst, hgn.2 d hdst]
        rw [dstE_some hdst] at hK
        simpa [act, hdst] using hK
      · rename_i t s x hop hdst
        split at hv <;> try (exact hv.elim)
        rename_i T g u g' cs hT hx hs
        obtain ⟨k1, k2, k3, k4, k5, rfl, rfl⟩ := hv
        have hds : dstE esc o = some s := by
          unfold dstE
          rw [hdst]
          unfold kindO at hk1
          simp only [hop] at hk1
          split at hk1
          · rename_i s' hs'
            have h1 := hs'
            unfold ownSt at h1
            simp only [hop, hdst, hgn.1] at h1
            split at h1
            · cases h1; exact hs'
            · cases h1
          · split at hk1 <;> cases hk1
        rw [hds] at hK
        unfold opw
        have ho : opv st.fr (.tmp s) = some (True, .lref s g' 0) := by simp [opv, hs, slotV]
        simp only [hop, hT, ho, hx, storeTo, hs]
        refine ⟨trivial, k1, ⟨trivial, by omega⟩, k3, k4, k5, ?_⟩
        rw [hdst]
        simpa [act, setD] using hK
    · -- a call that leaves the heap alone
      split at hv <;> try (exact hv.elim)
      rename_i c cl hc hop
      split at hv <;> try (exact hv.elim)
      rename_i g id vs hcv
      obtain ⟨r, k1, rfl, rfl⟩ := hv
      rw [act_setD, dstE_op (fun t a x e => by rw [hop] at e; cases e)] at hK
      rw [guardC_sound h.fr hc]
      cases c with
      | true =>
        rw [if_pos rfl]
        left
        refine pcall_sound (c := true) (wr := wrapG o.guard true) h hd rfl (fun E' w' t r x hr => ?_) ?_
        · cases hg : o.guard with
          | none => exact RS.of_RO hr
          | some gd => exact RS.whenT rfl hr
        · unfold pcall
          simp only [hop, hcv]
          exact ⟨r, fun _ => k1 rfl, hK⟩
      | false =>
        rw [if_neg (by simp)]
        refine ⟨E, _, h.put hd (fun t => ?_), hK⟩
        cases hg : o.guard with
        | none => simp [guardC, hg] at hc
        | some gd => exact RS.whenF rfl
    · exact hv.elim
end

/-- A region that draws its order. -/
def wpDraw (P : Program) (n : Nat) (esc : Nat → Bool) (ops : Array Oper) (m : Bool) (K : St → Prop) (st : St) : Prop :=
  lexF ops (indB esc ops m) ops.size 0 = true ∧ seqT (opd P n esc ops m) K ops.size 0 st

/-- How a piece of code is left. -/
inductive Ex where
  | normal
  | exit (id : Nat)
  | ret

/-- A loop: so many rounds one by one, then by what every round keeps. -/
def loopW (body : (Ex → St → Prop) → St → Prop) (Q : Ex → St → Prop) : Nat → St → Prop
  | 0, st => ∃ (I : St → Prop) (μ : St → Nat), I st ∧ ∀ st, I st → body (fun e st' => match e with
      | .normal => I st' ∧ μ st' < μ st
      | e => Q e st') st
  | k + 1, st => body (fun e st' => match e with
      | .normal => loopW body Q k st'
      | e => Q e st') st

theorem loopW_mono {body body' : (Ex → St → Prop) → St → Prop} (hb : ∀ Q Q' st, (∀ e s, Q e s → Q' e s) → body Q st → body' Q' st) {Q Q' : Ex → St → Prop} (h : ∀ e s, Q e s → Q' e s) : ∀ (k : Nat) (st : St), loopW body Q k st → loopW body' Q' k st
  | 0, st, ⟨I, μ, h0, hr⟩ => ⟨I, μ, h0, fun s hs => hb _ _ s (fun e s' hs' => by cases e <;> first | exact hs' | exact h _ _ hs') (hr s hs)⟩
  | k + 1, st, hk => hb _ _ st (fun e s' hs' => by cases e <;> first | exact loopW_mono hb h k _ hs' | exact h _ _ hs') hk


/-- THE TRANSFORMER OF PREDICATES. -/
def wpc (P : Program) (n : Nat) (esc : Nat → Bool) : Code → (Ex → St → Prop) → St → Prop
  | .skip, Q, st => Q .normal st
  | .label _, Q, st => Q .normal st
  | .region _ ops draw, Q, st =>
    match draw with
    | true => (∃ N, st.M N = none) → ∃ m, wpDraw P n esc ops m (Q .normal) st
    | false => opsg P n esc ops ops.toList (Q .normal) st
  | .seq a b, Q, st => wpc P n esc a (fun e st => match e with
      | .normal => wpc P n esc b Q st
      | e => Q e st) st
  | .cond c x y, Q, st =>
    match opv st.fr c with
    | some (g, .bool b) => g ∧ (b = true → wpc P n esc x Q st) ∧ (b = false → wpc P n esc y Q st)
    | _ => False
  | .block id c, Q, st => wpc P n esc c (fun e st => match e with
      | .exit id' => if id' = id then Q .normal st else Q (.exit id') st
      | e => Q e st) st
  | .loop c, Q, st => ∃ k, loopW (wpc P n esc c) Q k st
  | .exit id, Q, st => Q (.exit id) st
  | .ret, Q, st => Q .ret st
  | _, _, _ => False

def liftQ (E0 : Env) (w0 : World) (n : Nat) (Q : Ex → St → Prop) : Exit → Act → World → Prop
  | .normal, a, w => Nxt E0 w0 n (Q .normal) a w
  | .exit id, a, w => Nxt E0 w0 n (Q (.exit id)) a w
  | .ret, a, w => Nxt E0 w0 n (Q .ret) a w
  | _, _, _ => False

/-- Whatever a loop comes to, from the head of a round on. -/
def LoopIn (P : Program) (c : Code) (Q : Exit → Act → World → Prop) (a : Act) (w : World) : Prop :=
  ∀ b k cs, ∃ e a' w', Q e a' w' ∧ Arrives P (lone (b.at a (.code c :: .inLoop c :: k)) cs w) b k cs e a' w'

theorem loop_of_in {P : Program} {c : Code} {Q : Exit → Act → World → Prop} {a : Act} {w : World} (h : LoopIn P c Q a w) : (Code.loop c).wp P Q a w := by
  intro b k cs
  obtain ⟨e, a', w', hq, harr⟩ := h b k cs
  exact ⟨e, a', w', hq, .of_steps (.one step_loop) harr⟩

theorem loop_round {P : Program} {c : Code} {Q : Exit → Act → World → Prop} {a : Act} {w : World} (h : c.wp P (Exit.then (fun a' w' => LoopIn P c Q a' w') Q) a w) : LoopIn P c Q a w := by
  intro b k cs
  obtain ⟨e, a₁, w₁, hq, harr⟩ := h b (.inLoop c :: k) cs
  cases e with
  | normal =>
    obtain ⟨e₂, a₂, w₂, hq₂, harr₂⟩ := hq b k cs
    exact ⟨e₂, a₂, w₂, hq₂, .of_steps (Steps.trans harr (.one step_inLoop)) harr₂⟩
  | exit id => exact ⟨_, a₁, w₁, hq, .pass (x := .inLoop c) rfl (fun _ _ => .inl (by simp)) harr⟩
  | goto l => exact ⟨_, a₁, w₁, hq, .pass (x := .inLoop c) rfl (fun _ _ => .inl (by simp)) harr⟩
  | ret => exact ⟨_, a₁, w₁, hq, .pass (x := .inLoop c) rfl (fun _ _ => .inl (by simp)) harr⟩
  | panic ch => exact ⟨_, a₁, w₁, hq, .pass (x := .inLoop c) rfl (fun _ _ => .inl (by simp)) harr⟩
  | outgrown => exact ⟨_, a₁, w₁, hq, .pass (x := .inLoop c) rfl (fun _ _ => .inl (by simp)) harr⟩

theorem wp_loop_ghost {P : Program} {c : Code} {Q : Exit → Act → World → Prop} {S : Type} (I : S → Act → World → Prop) (μ : S → Nat) {s : S} {a : Act} {w : World} (h₀ : I s a w)
    (round : ∀ s a w, I s a w → c.wp P (Exit.then (fun a' w' => ∃ s', I s' a' w' ∧ μ s' < μ s) Q) a w) : LoopIn P c Q a w := by
  have key : ∀ n s a w, μ s = n → I s a w → LoopIn P c Q a w := by
    intro n
    induction n using Nat.strongRecOn with
    | _ n ih =>
      intro s a w hn hI
      refine loop_round (wp_mono (round s a w hI) fun e a' w' hq => ?_)
      cases e with
      | normal => obtain ⟨s', hI₁, hlt⟩ := hq; exact ih (μ s') (hn ▸ hlt) s' a' w' rfl hI₁
      | exit id => exact hq
      | goto l => exact hq
      | ret => exact hq
      | panic ch => exact hq
      | outgrown => exact hq
  exact key _ s a w rfl h₀

theorem wpc_sound {P : Program} {E0 : Env} {w0 : World} {n : Nat} {esc : Nat → Bool} (hmix : P.follows .mixedOrders = true) : ∀ (c : Code) (Q : Ex → St → Prop) (E : Env) (w : World) (st : St) (a : Act), RSt E0 w0 n E w st a → wpc P n esc c Q st → c.wp P (liftQ E0 w0 n Q) a w
  | .skip, Q, E, w, st, a, h, hk => wp_skip ⟨E, st, h, hk⟩
  | .label _, Q, E, w, st, a, h, hk => wp_label ⟨E, st, h, hk⟩
  | .region id ops draw, Q, E, w, st, a, h, hk => by
    cases draw with
    | false =>
      refine wp_region ?_
      have := opsg_sound (P := P) (Q := liftQ E0 w0 n Q) (K := Q .normal) (ops := ops) (fun a w hn => hn) ops.toList 0 E w st a (by simp) h hk
      simpa using this
    | true =>
      have hfree : ∃ N, st.M N = none := by
        obtain ⟨N, hN⟩ := h.inv.fin
        refine ⟨N, ?_⟩
        cases hM : st.M N with
        | none => rfl
        | some ho => obtain ⟨b, hb, _⟩ := h.heap N ho hM; rw [hN N (Nat.le_refl _)] at hb; cases hb
      obtain ⟨m, hB, hT⟩ := hk hfree
      refine wp_region_any hmix ?_
      have hd : RSt E0 w0 n E { w with drawn := w.drawn + 1 } st a := by
        have hg : Grow E w E { w with drawn := w.drawn + 1 } := ⟨⟨Nat.le_refl _, fun _ _ h => h, fun _ _ h => h, fun _ _ _ => rfl⟩, fun _ _ _ h => h, fun _ _ => rfl⟩
        exact ⟨⟨h.inv.size, h.inv.obm, h.inv.obn, h.inv.bxn, h.inv.ex, h.inv.exlt, h.inv.keep, h.inv.os, h.inv.tape, h.inv.output, h.inv.oblt, h.inv.bxlt, h.inv.obinj, h.inv.bxinj, h.inv.obbx, h.inv.fin⟩, h.fr.grow hg, h.size, h.heap.grow hg, h.defers, h.gens, h.dom⟩
      exact wpAny_of_anyA (T := opd P n esc ops m) (K := Q .normal) (fun i K E w st a h hk => opd_sound h hk) (fun a w hn => hn) _ _ E _ st a hd
        (anyA_lexF (fun i K K' s hK h => opd_mono i K K' s hK h) (fun i s => opd_real i s) (fun i j hij => opd_swap hij) _ _ _ _ (by simp) (by simp) (fun j hj => by simp [hj]) hB hT)
  | .seq x y, Q, E, w, st, a, h, hk => by
    refine wp_seq (wp_mono (wpc_sound hmix x _ E w st a h hk) fun e a' w' hq => ?_)
    cases e with
    | normal => obtain ⟨E', st', h', hk'⟩ := hq; exact wpc_sound hmix y Q E' w' st' a' h' hk'
    | exit id => exact hq
    | ret => exact hq
    | goto l => exact hq
    | panic ch => exact hq
    | outgrown => exact hq
  | .cond c x y, Q, E, w, st, a, h, hk => by
    simp only [wpc] at hk
    split at hk <;> try (exact hk.elim)
    rename_i g b hc
    have hv := opv_sound hc hk.1 h.fr
    simp only [RO, R] at hv
    cases b with
    | true => exact wp_cond_true hv (wpc_sound hmix x Q E w st a h (hk.2.1 rfl))
    | false => exact wp_cond_false hv (wpc_sound hmix y Q E w st a h (hk.2.2 rfl))
  | .block id c, Q, E, w, st, a, h, hk => by
    refine wp_block (wp_mono (wpc_sound hmix c _ E w st a h hk) fun e a' w' hq => ?_)
    cases e with
    | normal => exact hq
    | exit id' =>
      simp only [Exit.inBlock]
      obtain ⟨E', st', h', hk'⟩ := hq
      split
      · rename_i e; simp only [e, if_true] at hk'; exact ⟨E', st', h', hk'⟩
      · rename_i e; simp only [e, if_false] at hk'; exact ⟨E', st', h', hk'⟩
    | ret => exact hq
    | goto l => exact hq
    | panic ch => exact hq
    | outgrown => exact hq
  | .loop c, Q, E, w, st, a, h, hk => by
    obtain ⟨k, hk⟩ := hk
    refine loop_of_in ?_
    have key : ∀ (k : Nat) (E : Env) (w : World) (st : St) (a : Act), RSt E0 w0 n E w st a → loopW (wpc P n esc c) Q k st → LoopIn P c (liftQ E0 w0 n Q) a w := by
      intro k
      induction k with
      | succ k ih =>
        intro E w st a h hk
        refine loop_round (wp_mono (wpc_sound hmix c _ E w st a h hk) fun e a' w' hq => ?_)
        cases e with
        | normal => obtain ⟨E', st', h', hk'⟩ := hq; exact ih E' w' st' a' h' hk'
        | exit id => exact hq
        | ret => exact hq
        | goto l => exact hq
        | panic ch => exact hq
        | outgrown => exact hq
      | zero =>
        intro E w st a h hk
        obtain ⟨I, μ, h0, hr⟩ := hk
        refine wp_loop_ghost (S := St) (fun st a w => ∃ E, RSt E0 w0 n E w st a ∧ I st) μ (s := st) ⟨E, h, h0⟩ fun st a w ⟨E, h, hI⟩ => ?_
        refine wp_mono (wpc_sound hmix c _ E w st a h (hr st hI)) fun e a' w' hq => ?_
        cases e with
        | normal => obtain ⟨E', st', h', hI', hlt⟩ := hq; exact ⟨st', ⟨E', h', hI'⟩, hlt⟩
        | exit id => exact hq
        | ret => exact hq
        | goto l => exact hq
        | panic ch => exact hq
        | outgrown => exact hq
    exact key k E w st a h hk
  | .exit id, Q, E, w, st, a, h, hk => wp_exit ⟨E, st, h, hk⟩
  | .ret, Q, E, w, st, a, h, hk => wp_ret ⟨E, st, h, hk⟩
  | .rangeFunc _ _ _ _, Q, E, w, st, a, h, hk => hk.elim
  | .scope _, Q, E, w, st, a, h, hk => hk.elim
  | .goto _, Q, E, w, st, a, h, hk => hk.elim
  | .refuse _, Q, E, w, st, a, h, hk => hk.elim
end Go.Eng

/- The engine, part 15: functions. -/
namespace Go.Eng
set_option linter.unusedSimpArgs false
set_option linter.unusedVariables false

/-- What a result variable holds. -/
def resV1 (P : Program) (st : St) : ResultVar → Option (Prop × V)
  | .tmp t => opv st.fr (.tmp t)
  | .cell p t =>
    match ti P t, opv st.fr (.tmp p) with
    | some T, some (g, v) => match loadA st.M st.fr T v with
      | some (g', u) => some (g ∧ g', u)
      | none => none
    | _, _ => none

def resVs (P : Program) (st : St) : List ResultVar → Option (Prop × List V)
  | [] => some (True, [])
  | r :: rs =>
    match resV1 P st r, resVs P st rs with
    | some (g, v), some (g', vs) => some (g ∧ v.tag < 22 ∧ g', v :: vs)
    | _, _ => none

def resV (P : Program) (st : St) (rs : List ResultVar) : Option (Prop × V) :=
  match resVs P st rs with
  | some (g, [v]) => some (g, v)
  | some (g, vs) => some (g, .tup vs)
  | none => none

def resRun (tmps : Array Value) : ResultVar → Sem Value
  | .tmp t => pure (tmps.getD t undef)
  | .cell p t => do loadVar t (← asAddr (tmps.getD p undef))

theorem results_run {P : Program} {w : World} {fn : Func} {tmps : Array Value} {xs : Array Value} (h : (fn.results.mapM (resRun tmps)).run P w = .ok xs w) :
    (results fn tmps).run P w = .ok (if xs.size = 1 then xs.getD 0 undef else .tuple xs) w := by
  have e : results fn tmps = (do
      let vs ← fn.results.mapM (resRun tmps)
      pure (if h : vs.size = 1 then vs[0] else .tuple vs)) := by
    unfold results
    congr 1
  rw [e, Sem.run_bind, h]
  simp only [Result.andThen_ok, Sem.run_pure]
  split
  · rename_i h1; simp [Array.getD, h1]
  · rfl

def initSt (args : List V) (M : Heap) : St := { fr := fun t => args.getD t (.tup []), M := M, gen := fun _ => 0 }

/-- What is asked at a function's end. -/
def endQ (P : Program) (rs : List ResultVar) (Post : V → Heap → Prop) : Ex → St → Prop
  | .exit _, _ => False
  | _, st => match resV P st rs with
    | some (g, v) => g ∧ Post v st.M
    | none => False

section
variable {P : Program} {E0 E : Env} {w0 w : World} {n : Nat} {st : St} {a : Act}

theorem resV1_sound {r : ResultVar} {c : Prop} {v : V} (h : resV1 P st r = some (c, v)) (hc : c) (hs : RSt E0 w0 n E w st a) :
    ∃ x, (resRun a.tmps r).run P w = .ok x w ∧ RO E w v x := by
  cases r with
  | tmp t => simp only [resV1] at h; exact ⟨_, rfl, opv_sound h hc hs.fr⟩
  | cell p t =>
    simp only [resV1] at h
    split at h <;> try (simp at h; done)
    rename_i T g u hT ho
    split at h <;> simp at h
    rename_i g' v' hl
    obtain ⟨e, rfl⟩ := h
    obtain ⟨k1, k2⟩ := e.2 hc
    have hu := opv_sound ho k1 hs.fr
    obtain ⟨y, hy, hr⟩ := loadA_sound (P := P) hT hl k2 hs.fr hs.heap hu
    have hx : ∃ b off, a.eval (.tmp p) = .pointer (some ⟨b, off, none⟩) := by
      unfold loadA at hl
      split at hl
      · simp only [RO] at hu; obtain ⟨b, _, hu⟩ := hu; exact ⟨b, _, hu⟩
      · simp only [RO, R] at hu; obtain ⟨b, base, hu, _⟩ := hu; exact ⟨b, _, hu⟩
      · simp only [RO, R] at hu; obtain ⟨b, _, hu⟩ := hu; exact ⟨b, _, hu⟩
      · simp at hl
    obtain ⟨b, off, hx⟩ := hx
    have hx' : a.tmps.getD p undef = .pointer (some ⟨b, off, none⟩) := hx
    refine ⟨y, ?_, .of_R hr⟩
    have hy' : (loadVar t ⟨b, off, none⟩).run P w = .ok y w := by
      rw [hx] at hy
      simpa [Instr.loadAt, Instr.sureAddr] using hy
    simp only [resRun, hx', asAddr, Sem.run_bind, Sem.run_pure, Result.andThen_ok, hy']

theorem resVs_sound (hs : RSt E0 w0 n E w st a) : ∀ {rs : List ResultVar} {c : Prop} {vs : List V}, resVs P st rs = some (c, vs) → c →
    ∃ xs : List Value, (rs.mapM (resRun a.tmps)).run P w = .ok xs w ∧ RL E w vs xs
  | [], c, vs, h, hc => by simp [resVs] at h; obtain ⟨_, rfl⟩ := h; exact ⟨[], by simp, by simp [RL]⟩
  | r :: rs, c, vs, h, hc => by
    simp only [resVs] at h
    split at h <;> simp at h
    rename_i g v g' vs' h1 h2
    obtain ⟨e, rfl⟩ := h
    obtain ⟨k1, k2, k3⟩ := e.2 hc
    obtain ⟨x, hx, hr⟩ := resV1_sound h1 k1 hs
    obtain ⟨xs, hxs, hrs⟩ := resVs_sound hs h2 k3
    refine ⟨x :: xs, ?_, by simp only [RL]; exact ⟨x, xs, rfl, hr.of_tag k2, hrs⟩⟩
    rw [List.mapM_cons]
    simp only [Sem.run_bind]
    rw [hx]
    simp only [Result.andThen_ok]
    rw [hxs]
    simp

theorem resV_sound {fn : Func} {rs : List ResultVar} (hfn : fn.results.toList = rs) {c : Prop} {v : V} (h : resV P st rs = some (c, v)) (hc : c) (hs : RSt E0 w0 n E w st a) :
    ∃ x, (results fn a.tmps).run P w = .ok x w ∧ R E w v x := by
  subst hfn
  unfold resV at h
  have key : ∀ vs, resVs P st fn.results.toList = some (c, vs) → ∃ xs : Array Value, (fn.results.mapM (resRun a.tmps)).run P w = .ok xs w ∧ RL E w vs xs.toList := by
    intro vs hvs
    obtain ⟨xs, hx, hl⟩ := resVs_sound hs hvs hc
    refine ⟨xs.toArray, ?_, by simpa using hl⟩
    rw [Array.mapM_eq_mapM_toList, Sem.run_map, hx]
    rfl
  split at h
  · rename_i g v' hvs
    simp at h; obtain ⟨e, rfl⟩ := h
    rw [e] at hvs
    obtain ⟨xs, hx, hl⟩ := key _ hvs
    have hlen := hl.length
    simp at hlen
    refine ⟨_, results_run hx, ?_⟩
    rw [if_pos hlen.symm]
    simp only [RL] at hl
    obtain ⟨y, ys, hxs, hy, hys⟩ := hl
    have : xs.getD 0 undef = y := by
      have h0 : xs.toList[0]? = some y := by rw [hxs]; rfl
      have h1 : xs[0]? = some y := by simpa using h0
      simp [Array.getD_eq_getD_getElem?, h1]
    rw [this]; exact hy
  · rename_i g vs hne hvs
    simp at h; obtain ⟨e, rfl⟩ := h
    rw [e] at hvs
    obtain ⟨xs, hx, hl⟩ := key _ hvs
    have hlen := hl.length
    simp at hlen
    refine ⟨_, results_run hx, ?_⟩
    rw [if_neg (by
      rw [← hlen]; intro h1
      obtain ⟨v, hv⟩ := List.length_eq_one_iff.1 h1
      exact hne v hv)]
    simp only [R]; exact ⟨xs, rfl, hl⟩
  · simp at h

theorem RL.at {E : Env} {w : World} : ∀ {vs : List V} {xs : List Value} (t : Nat), RL E w vs xs → t < vs.length → R E w (vs.getD t (.tup [])) (xs.getD t undef)
  | [], _, t, _, ht => by simp at ht
  | v :: vs, xs, 0, h, ht => by
    simp only [RL] at h
    obtain ⟨y, ys, rfl, h1, _⟩ := h
    simpa using h1
  | v :: vs, xs, t + 1, h, ht => by
    simp only [RL] at h
    obtain ⟨y, ys, rfl, _, h2⟩ := h
    simpa using RL.at t h2 (by simpa using ht)

/-- A CONTRACT, OUT OF THE TRANSFORMER. -/
theorem Spec.intro {f : FuncId} {fn : Func} {c : Code} {n : Nat} {rs : List ResultVar} {args : List V} {M : Heap} {Post : V → Heap → Prop} (esc : Nat → Bool) (hmix : P.follows .mixedOrders = true) (hf : P.funcs[f]? = some fn) (hb : fn.body = some c)
    (hname : (fn.name == "runtime.NumGoroutine") = false) (hn : fn.ntmps = n) (hrs : fn.results.toList = rs) (ha : args.length ≤ n) (h : wpc P n esc c (endQ P rs Post) (initSt args M)) : Spec P f args M Post := by
  refine ⟨⟨fn, hf, hname, by rw [hb]; rfl⟩, fun E w xs hbx hinv hl hm hdm => ?_⟩
  have hlen := hl.length
  simp at hlen
  refine calls_of_wp hf hb ?_
  have hst : RSt E w n E w (initSt args M) { tmps := xs ++ Array.replicate (fn.ntmps - xs.size) undef, defers := [] } := by
    refine ⟨hinv, fun t => ?_, by simp; omega, hm, rfl, fun s g _ => hbx s g, hdm⟩
    simp only [initSt]
    by_cases ht : t < args.length
    · have := RL.at t hl ht
      have hx : (xs ++ Array.replicate (fn.ntmps - xs.size) undef).getD t undef = xs.toList.getD t undef := by
        have htx : t < xs.size := by omega
        simp [Array.getD_eq_getD_getElem?, List.getD, Array.getElem?_append, htx]
      rw [hx]
      exact RS.of_RO (RO.of_R this)
    · have h1 : args.getD t (.tup []) = .tup [] := by simp [List.getD, List.getElem?_eq_none (by omega : args.length ≤ t)]
      have hx : (xs ++ Array.replicate (fn.ntmps - xs.size) undef).getD t undef = undef := by
        rw [Array.getD_eq_getD_getElem?, Array.getElem?_append]
        rw [if_neg (by omega)]
        simp [Array.getElem?_replicate]
        split <;> rfl
      rw [h1, hx]
      exact RS_tupnil t
  refine wp_mono (wpc_sound hmix c _ E w _ _ hst h) fun e a' w' hq => ?_
  have fin : ∀ (E' : Env) (st' : St), RSt E w n E' w' st' a' → (match resV P st' rs with | some (g, v) => g ∧ Post v st'.M | none => False) → a'.defers = [] ∧ ∃ v, (results fn a'.tmps).run P w' = .ok v w' ∧ ∃ x r M' E', Ending.returned v = .returned x ∧ Post r M' ∧ R E' w' r x ∧ RH E' w' M' ∧ Inv E w E' w' ∧ ∀ o, M' o = none → E'.ob o = none := by
    intro E' st' h' hp
    split at hp <;> try (exact hp.elim)
    rename_i g v hr
    obtain ⟨x, hx, hrx⟩ := resV_sound hrs hr hp.1 h'
    exact ⟨h'.defers, x, hx, x, v, st'.M, E', rfl, hp.2, hrx, h'.heap, h'.inv, h'.dom⟩
  cases e with
  | normal => obtain ⟨E', st', h', hp⟩ := hq; exact fin E' st' h' hp
  | ret => obtain ⟨E', st', h', hp⟩ := hq; exact fin E' st' h' hp
  | exit id => obtain ⟨E', st', h', hp⟩ := hq; exact hp.elim
  | goto l => exact hq.elim
  | panic ch => exact hq.elim
  | outgrown => exact hq.elim
end
end Go.Eng

/- The engine, part 16: how it is run. -/
namespace Go.Eng
set_option linter.unusedSimpArgs false
set_option linter.unusedVariables false

section
variable {P : Program} {n : Nat} {esc : Nat → Bool} {c x y : Code} {Q : Ex → St → Prop} {st st' : St} {ops : Array Oper} {l : List Oper} {K : St → Prop} {o : Oper}

theorem wpc_mono {Q' : Ex → St → Prop} (h : ∀ e s, Q e s → Q' e s) : ∀ {c : Code} {st : St}, wpc P n esc c Q st → wpc P n esc c Q' st := by
  intro c
  induction c generalizing Q Q' with
  | skip => exact fun hk => h _ _ hk
  | label l => exact fun hk => h _ _ hk
  | exit id => exact fun hk => h _ _ hk
  | ret => exact fun hk => h _ _ hk
  | seq a b iha ihb => exact fun hk => iha (fun e s hs => by cases e <;> first | exact ihb h hs | exact h _ _ hs) hk
  | cond c x y ihx ihy =>
    intro st hk
    simp only [wpc] at hk ⊢
    split at hk <;> try (exact hk.elim)
    exact ⟨hk.1, fun e => ihx h (hk.2.1 e), fun e => ihy h (hk.2.2 e)⟩
  | block id c ih =>
    exact fun hk => ih (fun e s hs => by
      cases e with
      | exit id' => simp only at hs ⊢; split <;> rename_i he <;> simp only [he, if_true, if_false] at hs <;> exact h _ _ hs
      | _ => exact h _ _ hs) hk
  | loop c ih =>
    rintro st ⟨k, hk⟩
    exact ⟨k, loopW_mono (body := wpc P n esc c) (body' := wpc P n esc c) (fun Q Q' st hq hb => ih hq hb) h k st hk⟩
  | region id ops draw =>
    intro st hk
    cases draw with
    | false =>
      have : ∀ (l : List Oper) (s : St), opsg P n esc ops l (Q .normal) s → opsg P n esc ops l (Q' .normal) s := by
        intro l
        induction l with
        | nil => exact fun s hs => h _ _ hs
        | cons o l ih => exact fun s hs => opg_mono ih hs
      exact this _ _ hk
    | true =>
      intro hfree
      obtain ⟨m, hB, hT⟩ := hk hfree
      refine ⟨m, hB, ?_⟩
      have : ∀ (f k : Nat) (s : St), seqT (opd P n esc ops m) (Q .normal) f k s → seqT (opd P n esc ops m) (Q' .normal) f k s := by
        intro f
        induction f with
        | zero => exact fun k s hs => h _ _ hs
        | succ f ih => exact fun k s hs => opd_mono k _ _ s (fun s' hs' => ih (k + 1) s' hs') hs
      exact this _ _ _ hT
  | rangeFunc _ _ _ _ => exact fun hk => hk.elim
  | scope _ => exact fun hk => hk.elim
  | goto _ => exact fun hk => hk.elim
  | refuse _ => exact fun hk => hk.elim

end

/-! ### Code, stripped to what counts -/
structure SO where
  d : Option Nat
  g : Option (Nat × Bool)
  op : Op

inductive SC where
  | skip
  | seq (a b : SC)
  | reg (l : List SO)
  | draw (ops : Array Oper) (l : List SO)
  | cond (c : Operand) (x y : SC)
  | block (id : Nat) (c : SC)
  | loop (c : SC)
  | exit (id : Nat)
  | ret
  | bad

/-- The slot of a guard. -/
def stripG (ops : Array Oper) : Option (Nat × Bool) → Option (Nat × Bool)
  | none => none
  | some (j, want) => match ops[j]? with
    | some o => match o.dst with
      | some d => some (d, want)
      | none => some (1000000, want)
    | none => some (1000000, want)

def stripO (ops : Array Oper) (o : Oper) : SO := ⟨o.dst, stripG ops o.guard, o.op⟩

def strip : Code → SC
  | .skip => .skip
  | .label _ => .skip
  | .region _ ops draw => match draw with
    | false => .reg (ops.toList.map (stripO ops))
    | true => .draw ops (ops.toList.map (stripO ops))
  | .seq a b => .seq (strip a) (strip b)
  | .cond c x y => .cond c (strip x) (strip y)
  | .block id c => .block id (strip c)
  | .loop c => .loop (strip c)
  | .exit id => .exit id
  | .ret => .ret
  | _ => .bad

def wanted (fr : Nat → V) : Option (Nat × Bool) → Option Bool
  | none => some true
  | some (s, want) => guardB want (fr s)

def SO.oper (o : SO) : Oper := ⟨o.d, o.op, 0, "", #[], none⟩

/-- One operation that needn't be asked about: the condition, and the state behind it. -/
def step (P : Program) (n : Nat) (esc : Nat → Bool) (o : SO) (st : St) : Option (Prop × St) :=
  match dstLt n o.d with
  | false => none
  | true =>
    match o.op with
    | .box _ x =>
      match o.g, o.d, opv st.fr x with
      | none, some d, some (g, v) => if esc d then none else some (g ∧ v.tag < 20, ⟨upd st.fr d (.box (st.gen d) v.cells), st.M, bump st.gen d⟩)
      | _, _, _ => none
    | .alloc t =>
      match o.g, o.d, zeroV P t with
      | none, some d, some z => if esc d then none else some (True, ⟨upd st.fr d (.box (st.gen d) z.cells), st.M, bump st.gen d⟩)
      | _, _, _ => none
    | .store t a x =>
      match o.g, ti P t, opv st.fr a, opv st.fr x with
      | none, some T, some (g, av), some (g', v) =>
        match storeTo st v.cells av with
        | some (g'', st') => some (g ∧ g' ∧ g'' ∧ v.cells.length = T.size ∧ v.tag < 20 ∧ (∀ c ∈ v.cells, cellOk c = true), setD st' o.d (.tup []))
        | none => none
      | _, _, _, _ => none
    | op =>
      match isA op with
      | false => none
      | true =>
        match o.g with
        | none => match evalQ P st.M st.fr op with
          | some (g, v) => some (g, setD st o.d v)
          | none => none
        | some (s, want) =>
          match guardB want (st.fr s) with
          | some c => match evalQ P st.M st.fr op with
            | some (g, v) => some (c = true → g, setD st o.d (.when c v))
            | none => some (c = false, setD st o.d (.tup []))
          | none => none

/-- As far as it goes. -/
def run (P : Program) (n : Nat) (esc : Nat → Bool) : List SO → St → Prop × St × List SO
  | [], st => (True, st, [])
  | o :: l, st =>
    match step P n esc o st with
    | some (g, st') => (g ∧ (run P n esc l st').1, (run P n esc l st').2)
    | none => (True, st, o :: l)

/-- One operation, whatever it is. -/
def opO (P : Program) (n : Nat) (esc : Nat → Bool) (o : SO) (K : St → Prop) (st : St) : Prop :=
  dstLt n o.d = true ∧
  match o.g with
  | none => opw P esc o.oper K st
  | some (s, want) =>
    match guardB want (st.fr s) with
    | none => False
    | some c =>
      match isA o.op with
      | true => match evalQ P st.M st.fr o.op with
        | some (need, v) => (c = true → need) ∧ K (setD st o.d (.when c v))
        | none => c = false ∧ K (setD st o.d (.tup []))
      | false => ((c = true → opw P esc o.oper K st) ∧ (c = false → K (setD st o.d (.tup [])))) ∨ pcall P c (.when c) o.oper K st

def oss (P : Program) (n : Nat) (esc : Nat → Bool) : List SO → (St → Prop) → St → Prop
  | [], K, st => K st
  | o :: l, K, st => opO P n esc o (oss P n esc l K) st

def wps (P : Program) (n : Nat) (esc : Nat → Bool) : SC → (Ex → St → Prop) → St → Prop
  | .skip, Q, st => Q .normal st
  | .reg l, Q, st => oss P n esc l (Q .normal) st
  | .draw ops _, Q, st => (∃ N, st.M N = none) → ∃ m, wpDraw P n esc ops m (Q .normal) st
  | .seq a b, Q, st => wps P n esc a (fun e st => match e with
      | .normal => wps P n esc b Q st
      | e => Q e st) st
  | .cond c x y, Q, st =>
    match opv st.fr c with
    | some (g, .bool b) => g ∧ (b = true → wps P n esc x Q st) ∧ (b = false → wps P n esc y Q st)
    | _ => False
  | .block id c, Q, st => wps P n esc c (fun e st => match e with
      | .exit id' => if id' = id then Q .normal st else Q (.exit id') st
      | e => Q e st) st
  | .loop c, Q, st => ∃ k, loopW (wps P n esc c) Q k st
  | .exit id, Q, st => Q (.exit id) st
  | .ret, Q, st => Q .ret st
  | .bad, _, _ => False

section
variable {P : Program} {n : Nat} {esc : Nat → Bool} {c x y : Code} {Q : Ex → St → Prop} {st st' : St} {ops : Array Oper} {l : List SO} {K K' : St → Prop} {o : SO}

theorem opw_oper (o : Oper) : opw P esc (stripO ops o).oper K st = opw P esc o K st := by
  obtain ⟨dst, op, type, pos, after, guard⟩ := o
  rfl

theorem guardOf_strip (fr : Nat → V) (g : Nat × Bool) (c : Bool) (h : (match stripG ops (some g) with | some (s, want) => guardB want (fr s) | none => none) = some c) (hs : ∀ s want, stripG ops (some g) = some (s, want) → s ≠ 1000000) : guardOf ops fr g = some c := by
  obtain ⟨j, want⟩ := g
  simp only [stripG] at h hs
  simp only [guardOf]
  cases hj : ops[j]? with
  | none => simp only [hj] at hs; exact absurd rfl (hs _ _ rfl)
  | some o =>
    simp only [hj] at h hs ⊢
    cases hd : o.dst with
    | none => simp only [hd] at hs; exact absurd rfl (hs _ _ rfl)
    | some d => simp only [hd] at h ⊢; exact h

/-- Every guard has a slot. -/
def guardsOk (ops : Array Oper) : Bool := ops.toList.all fun o => match stripG ops o.guard with
  | some (s, _) => s != 1000000
  | none => true

def codeOk : Code → Bool
  | .region _ ops _ => guardsOk ops
  | .seq a b => codeOk a && codeOk b
  | .cond _ x y => codeOk x && codeOk y
  | .block _ c => codeOk c
  | .loop c => codeOk c
  | _ => true

theorem opO_strip {o : Oper} (hs : ∀ s want, stripG ops o.guard = some (s, want) → s ≠ 1000000) (h : opO P n esc (stripO ops o) K st) : opg P n esc ops o K st := by
  unfold opO at h
  unfold opg
  refine ⟨h.1, ?_⟩
  have h2 := h.2
  cases hg : o.guard with
  | none =>
    simp only [stripO, hg, stripG] at h2 ⊢
    rw [← opw_oper (ops := ops) (P := P) (esc := esc) (K := K) (st := st) o]
    simpa only [stripO, hg, stripG] using h2
  | some gd =>
    have hd : ∃ s want, stripG ops (some gd) = some (s, want) := by
      obtain ⟨j, want⟩ := gd
      simp only [stripG]
      split
      · split <;> exact ⟨_, _, rfl⟩
      · exact ⟨_, _, rfl⟩
    obtain ⟨s, want, hd⟩ := hd
    simp only [stripO, hg, hd] at h2
    cases hc : guardB want (st.fr s) with
    | none => simp only [hc] at h2
    | some c =>
      simp only [hc] at h2
      have hgo : guardOf ops st.fr gd = some c := guardOf_strip st.fr gd c (by rw [hd]; exact hc) (fun s' w' e => hs s' w' (by rw [hg]; exact e))
      simp only [hgo]
      exact h2

theorem oss_strip (hs : guardsOk ops = true) : ∀ (l : List Oper) (st : St), (∀ o ∈ l, o ∈ ops.toList) → oss P n esc (l.map (stripO ops)) K st → opsg P n esc ops l K st
  | [], st, _, h => h
  | o :: l, st, hm, h => by
    have ho := List.all_eq_true.1 hs o (hm o (by simp))
    refine opg_mono (fun s hs' => oss_strip hs l s (fun o' h' => hm o' (by simp [h'])) hs') (opO_strip (fun s want e => ?_) h)
    rw [e] at ho
    simpa using ho

theorem wps_strip : ∀ (c : Code) (Q : Ex → St → Prop) (st : St), codeOk c = true → wps P n esc (strip c) Q st → wpc P n esc c Q st
  | .skip, Q, st, _, h => h
  | .label _, Q, st, _, h => h
  | .region id ops draw, Q, st, hc, h => by
    cases draw with
    | false => exact oss_strip hc ops.toList st (fun o ho => ho) h
    | true => exact h
  | .seq a b, Q, st, hc, h => by
    simp only [codeOk, Bool.and_eq_true] at hc
    have h1 := wps_strip a (fun e st => match e with
      | .normal => wps P n esc (strip b) Q st
      | e => Q e st) st hc.1 h
    show wpc P n esc a (fun e st => match e with
      | .normal => wpc P n esc b Q st
      | e => Q e st) st
    exact wpc_mono (fun e s hs => by cases e <;> first | exact wps_strip b Q s hc.2 hs | exact hs) h1
  | .cond c x y, Q, st, hc, h => by
    simp only [codeOk, Bool.and_eq_true] at hc
    simp only [strip, wps] at h
    simp only [wpc]
    cases hcv : opv st.fr c with
    | none => simp only [hcv] at h
    | some gv =>
      obtain ⟨g, v⟩ := gv
      simp only [hcv] at h ⊢
      cases v <;> first | exact h.elim | exact ⟨h.1, fun e => wps_strip x Q st hc.1 (h.2.1 e), fun e => wps_strip y Q st hc.2 (h.2.2 e)⟩
  | .block id c, Q, st, hc, h => wps_strip c _ st hc h
  | .loop c, Q, st, hc, h => by
    obtain ⟨k, hk⟩ := h
    exact ⟨k, loopW_mono (body := wps P n esc (Go.Eng.strip c)) (body' := wpc P n esc c) (fun Q Q' st hq hb => wpc_mono hq (wps_strip c Q st hc hb)) (fun _ _ h => h) k st hk⟩
  | .exit id, Q, st, _, h => h
  | .ret, Q, st, _, h => h
  | .rangeFunc _ _ _ _, Q, st, _, h => h.elim
  | .scope _, Q, st, _, h => h.elim
  | .goto _, Q, st, _, h => h.elim
  | .refuse _, Q, st, _, h => h.elim

theorem step_sound {g : Prop} (h : step P n esc o st = some (g, st')) (hg : g) (hk : K st') : opO P n esc o K st := by
  unfold step at h
  cases hd : dstLt n o.d with
  | false => simp only [hd] at h; cases h
  | true =>
    simp only [hd] at h
    refine ⟨hd, ?_⟩
    split at h
    · rename_i t x hop
      split at h <;> try (cases h; done)
      rename_i d g' v h1 h2 h3
      split at h
      · cases h
      · rename_i he
        simp only [Option.some.injEq, Prod.mk.injEq] at h
        obtain ⟨rfl, rfl⟩ := h
        simp only [h1]
        unfold opw
        simp only [SO.oper, hop, h3, newVarW, h2, he, if_false]
        exact ⟨hg.1, hg.2, hk⟩
    · rename_i t hop
      split at h <;> try (cases h; done)
      rename_i d z h1 h2 h3
      split at h
      · cases h
      · rename_i he
        simp only [Option.some.injEq, Prod.mk.injEq] at h
        obtain ⟨rfl, rfl⟩ := h
        simp only [h1]
        unfold opw
        simp only [SO.oper, hop, h3, newVarW, h2, he, if_false]
        exact hk
    · rename_i t ad x hop
      split at h <;> try (cases h; done)
      rename_i T g1 av g2 v h1 h2 h3 h4
      split at h <;> try (cases h; done)
      rename_i g3 st1 h5
      simp only [Option.some.injEq, Prod.mk.injEq] at h
      obtain ⟨rfl, rfl⟩ := h
      simp only [h1]
      unfold opw
      simp only [SO.oper, hop, h2, h3, h4, h5]
      obtain ⟨k1, k2, k3, k4, k5, k6⟩ := hg
      exact ⟨k1, k2, k3, k4, k5, k6, hk⟩
    · rename_i op n1 n2 n3
      cases hA : isA o.op with
      | false => simp only [hA] at h; cases h
      | true =>
        simp only [hA] at h
        cases hgd : o.g with
        | none =>
          simp only [hgd] at h
          split at h <;> try (cases h; done)
          rename_i g' v he
          simp only [Option.some.injEq, Prod.mk.injEq] at h
          obtain ⟨rfl, rfl⟩ := h
          simp only
          unfold opw
          simp only [SO.oper]
          split <;> rename_i hop <;> first
            | (simp only [hop, isA] at hA; cases hA; done)
            | (simp only [he]; exact ⟨hg, hk⟩)
        | some sw =>
          obtain ⟨s, want⟩ := sw
          simp only [hgd] at h ⊢
          cases hc : guardB want (st.fr s) with
          | none => simp only [hc] at h; cases h
          | some c =>
            simp only [hc] at h ⊢
            cases he : evalQ P st.M st.fr o.op with
            | none =>
              simp only [he, Option.some.injEq, Prod.mk.injEq] at h ⊢
              obtain ⟨rfl, rfl⟩ := h
              exact ⟨hg, hk⟩
            | some gv =>
              obtain ⟨g', v⟩ := gv
              simp only [he, Option.some.injEq, Prod.mk.injEq] at h ⊢
              obtain ⟨rfl, rfl⟩ := h
              exact ⟨hg, hk⟩

theorem run_sound : ∀ (l : List SO) (st : St), (run P n esc l st).1 → oss P n esc (run P n esc l st).2.2 K (run P n esc l st).2.1 → oss P n esc l K st
  | [], st, _, h => h
  | o :: l, st, hg, h => by
    unfold run at hg h
    cases hs : step P n esc o st with
    | none => simp only [hs] at h; exact h
    | some gs =>
      obtain ⟨g, st'⟩ := gs
      simp only [hs] at hg h
      exact step_sound hs hg.1 (run_sound l st' hg.2 h)

/-! ### Rules for use -/
/-- A region, as far as it goes. -/
theorem wps_reg (h : (run P n esc l st).1 ∧ oss P n esc (run P n esc l st).2.2 (Q .normal) (run P n esc l st).2.1) : wps P n esc (.reg l) Q st := run_sound l st h.1 h.2
theorem oss_run (h : (run P n esc l st).1 ∧ oss P n esc (run P n esc l st).2.2 K (run P n esc l st).2.1) : oss P n esc l K st := run_sound l st h.1 h.2
theorem oss_nil (h : K st) : oss P n esc [] K st := h
theorem wps_seq_k {x y : SC} (h : ∀ K : St → Prop, (∀ s, wps P n esc y Q s → K s) → wps P n esc x (fun e s => match e with | .normal => K s | e => Q e s) st) : wps P n esc (.seq x y) Q st := h _ fun _ h => h
end

theorem upd_app (fr : Nat → V) (d : Nat) (v : V) (s : Nat) : upd fr d v s = if s = d then v else fr s := rfl

/-- The program's function f, stripped. -/
def FnOk (P : Program) (f : FuncId) (n : Nat) (rs : List ResultVar) (sc : SC) : Prop :=
  P.follows .mixedOrders = true ∧ ∃ fn, P.funcs[f]? = some fn ∧ (fn.name == "runtime.NumGoroutine") = false ∧ fn.ntmps = n ∧ fn.results.toList = rs ∧ fn.body.map strip = some sc ∧ fn.body.map codeOk = some true

/-- A CONTRACT, OUT OF THE STRIPPED CODE. -/
theorem Spec.strip {P : Program} {f : FuncId} {n : Nat} {rs : List ResultVar} {args : List V} {M : Heap} {Post : V → Heap → Prop} {sc : SC} (esc : Nat → Bool) (hf : FnOk P f n rs sc) (ha : args.length ≤ n)
    (h : wps P n esc sc (endQ P rs Post) ⟨fun t => args.getD t (.tup []), M, fun _ => 0⟩) : Spec P f args M Post := by
  obtain ⟨hmix, fn, hf, hname, hn, hrs, hb, hok⟩ := hf
  cases hc : fn.body with
  | none => simp [hc] at hb
  | some c =>
    simp [hc] at hb hok
    exact Spec.intro esc hmix hf hc hname hn hrs ha (wps_strip c _ _ hok (hb ▸ h))
end Go.Eng

/- The engine, part 17: rules for use. -/
namespace Go.Eng
set_option linter.unusedSimpArgs false
set_option linter.unusedVariables false

/-- A region, done. -/
theorem oss_done {P : Program} {n : Nat} {esc : Nat → Bool} {K : St → Prop} {g : Prop} {st : St} (hg : g) (h : K st) : g ∧ oss P n esc [] K st := ⟨hg, h⟩

theorem oss_nil_eq {P : Program} {n : Nat} {esc : Nat → Bool} {K : St → Prop} {st : St} : oss P n esc [] K st = K st := rfl

section
variable {P : Program} {n : Nat} {esc : Nat → Bool} {Q Q' : Ex → St → Prop} {st st' : St} {K K' : St → Prop} {x y : SC}

theorem opO_mono {o : SO} (h : ∀ s, K s → K' s) (hk : opO P n esc o K st) : opO P n esc o K' st := by
  refine ⟨hk.1, ?_⟩
  have h2 := hk.2
  cases hg : o.g with
  | none =>
    simp only [hg] at h2 ⊢
    exact opw_mono h h2
  | some sw =>
    obtain ⟨s, want⟩ := sw
    simp only [hg] at h2 ⊢
    cases hc : guardB want (st.fr s) with
    | none => simp only [hc] at h2
    | some c =>
      simp only [hc] at h2 ⊢
      cases hA : isA o.op with
      | true =>
        simp only [hA] at h2 ⊢
        cases he : evalQ P st.M st.fr o.op with
        | none => simp only [he] at h2 ⊢; exact ⟨h2.1, h _ h2.2⟩
        | some gv => simp only [he] at h2 ⊢; exact ⟨h2.1, h _ h2.2⟩
      | false =>
        simp only [hA] at h2 ⊢
        rcases h2 with ⟨a, b⟩ | h2
        · exact .inl ⟨fun e => opw_mono h (a e), fun e => h _ (b e)⟩
        · exact .inr (pcall_mono h h2)

theorem oss_mono : ∀ {l : List SO} {st : St}, (∀ s, K s → K' s) → oss P n esc l K st → oss P n esc l K' st
  | [], _, h, hk => h _ hk
  | _ :: _, _, h, hk => opO_mono (fun s hs => oss_mono h hs) hk

theorem wps_mono : ∀ {c : SC} {Q Q' : Ex → St → Prop} {st : St}, (∀ e s, Q e s → Q' e s) → wps P n esc c Q st → wps P n esc c Q' st := by
  intro c
  induction c with
  | skip => exact fun h hk => h _ _ hk
  | exit id => exact fun h hk => h _ _ hk
  | ret => exact fun h hk => h _ _ hk
  | bad => exact fun h hk => hk.elim
  | reg l => exact fun h hk => oss_mono (h .normal) hk
  | draw ops l =>
    intro Q Q' st h hk
    intro hfree
    obtain ⟨m, hB, hT⟩ := hk hfree
    refine ⟨m, hB, ?_⟩
    have : ∀ (f k : Nat) (s : St), seqT (opd P n esc ops m) (Q .normal) f k s → seqT (opd P n esc ops m) (Q' .normal) f k s := by
      intro f
      induction f with
      | zero => exact fun k s hs => h _ _ hs
      | succ f ih => exact fun k s hs => opd_mono k _ _ s (fun s' hs' => ih (k + 1) s' hs') hs
    exact this _ _ _ hT
  | seq a b iha ihb => exact fun h hk => iha (fun e s hs => by cases e <;> first | exact ihb h hs | exact h _ _ hs) hk
  | cond c x y ihx ihy =>
    intro Q Q' st h hk
    simp only [wps] at hk ⊢
    split at hk <;> try (exact hk.elim)
    exact ⟨hk.1, fun e => ihx h (hk.2.1 e), fun e => ihy h (hk.2.2 e)⟩
  | block id c ih =>
    exact fun h hk => ih (fun e s hs => by
      cases e with
      | exit id' => simp only at hs ⊢; split <;> rename_i he <;> simp only [he, if_true, if_false] at hs <;> exact h _ _ hs
      | _ => exact h _ _ hs) hk
  | loop c ih =>
    rintro Q Q' st h ⟨k, hk⟩
    exact ⟨k, loopW_mono (body := wps P n esc c) (body' := wps P n esc c) (fun Q Q' st hq hb => ih hq hb) h k st hk⟩

/-- A sequence, with what holds between. -/
theorem wps_seq_cut (J : St → Prop) (hx : wps P n esc x (fun e s => match e with | .normal => J s | e => Q e s) st) (hy : ∀ s, J s → wps P n esc y Q s) : wps P n esc (.seq x y) Q st := by
  show wps P n esc x _ st
  refine wps_mono (fun e s hs => ?_) hx
  cases e <;> first | exact hy s hs | exact hs

theorem wps_cond {c : Operand} {g : Prop} {b : Bool} (h : opv st.fr c = some (g, .bool b)) (hg : g) (hx : b = true → wps P n esc x Q st) (hy : b = false → wps P n esc y Q st) : wps P n esc (.cond c x y) Q st := by
  simp only [wps, h]; exact ⟨hg, hx, hy⟩

theorem wps_loop {c : SC} (I : St → Prop) (μ : St → Nat) (h0 : I st) (hr : ∀ fr M gen, I ⟨fr, M, gen⟩ → wps P n esc c (fun e st' => match e with
      | .normal => I st' ∧ μ st' < μ ⟨fr, M, gen⟩
      | e => Q e st') ⟨fr, M, gen⟩) : wps P n esc (.loop c) Q st := ⟨0, I, μ, h0, fun st hs => hr st.fr st.M st.gen hs⟩

/-- A loop, round by round. -/
theorem wps_rounds {c : SC} (k : Nat) (h : loopW (wps P n esc c) Q k st) : wps P n esc (.loop c) Q st := ⟨k, h⟩
theorem loopW_succ {body : (Ex → St → Prop) → St → Prop} {k : Nat} : loopW body Q (k + 1) st = body (fun e st' => match e with
      | .normal => loopW body Q k st'
      | e => Q e st') st := rfl

/-- A loop that counts up. -/
theorem wps_count {c : SC} (slot N : Nat) (J : Nat → St → Prop) (h0 : ∃ k : Nat, k ≤ N ∧ st.fr slot = .int .i64 k ∧ J k st)
    (hr : ∀ (k : Nat) fr M gen, k ≤ N → fr slot = .int .i64 k → J k ⟨fr, M, gen⟩ → wps P n esc c (fun e st' => match e with
      | .normal => k < N ∧ st'.fr slot = .int .i64 (k + 1) ∧ J (k + 1) st'
      | e => Q e st') ⟨fr, M, gen⟩) : wps P n esc (.loop c) Q st := by
  refine wps_loop (fun st => ∃ k : Nat, k ≤ N ∧ st.fr slot = .int .i64 k ∧ J k st) (fun st => match st.fr slot with | .int _ k => N - k.toNat | _ => 0) h0 ?_
  rintro fr M gen ⟨k, hk, hs, hj⟩
  refine wps_mono (fun e s h => ?_) (hr k fr M gen hk hs hj)
  cases e with
  | normal =>
    obtain ⟨h1, h2, h3⟩ := h
    refine ⟨⟨k + 1, h1, by rw [h2]; rfl, h3⟩, ?_⟩
    simp only at hs
    simp only [h2, hs]
    omega
  | _ => exact h

theorem wps_block {id : Nat} {c : SC} (h : wps P n esc c (fun e st => match e with
      | .exit id' => if id' = id then Q .normal st else Q (.exit id') st
      | e => Q e st) st) : wps P n esc (.block id c) Q st := h
end

/-! ### Nothing is too long -/
mutual
def lenOk : V → Prop
  | .str s => s.length ≤ maxLen
  | .agg cs => lensOk cs
  | .lst es => es.length ≤ maxLen ∧ lenssOk es
  | _ => True
def lensOk : List V → Prop
  | [] => True
  | v :: vs => lenOk v ∧ lensOk vs
def lenssOk : List (List V) → Prop
  | [] => True
  | e :: es => lensOk e ∧ lenssOk es
end

mutual
theorem R.len {E : Env} {w : World} : ∀ (v : V) (x : Value), R E w v x → lenOk v
  | .str s, x, h => by simp only [R] at h; exact h.2
  | .agg cs, x, h => by simp only [R] at h; obtain ⟨xs, _, hl⟩ := h; exact RL.len cs _ hl
  | .lst es, x, h => by
    simp only [R] at h
    obtain ⟨a, cap, _, h1, h2, h3⟩ := h
    refine ⟨Nat.le_trans h1 h2, ?_⟩
    rcases h3 with rfl | ⟨b, off, sz, _, _, _, h4⟩
    · trivial
    · exact RE.len es _ _ _ h4
  | .any, _, _ => trivial
  | .bool _, _, _ => trivial
  | .int _ _, _, _ => trivial
  | .tup _, _, _ => trivial
  | .nilp, _, _ => trivial
  | .ptr _ _, _, _ => trivial
  | .eref _ _, _, _ => trivial
  | .lref _ _ _, _, _ => trivial
  | .box _ _, _, _ => trivial
  | .itr _ _ _, _, _ => trivial
  | .nilm, _, _ => trivial
  | .map _, _, _ => trivial
  | .fn _ _ _, _, _ => trivial
  | .nilf, _, _ => trivial
  | .iface _ _, _, _ => trivial
  | .nili, _, _ => trivial
  | .when _ _, _, _ => trivial
  | .nils, _, _ => trivial
  | .emp, _, _ => trivial
  | .sli _ _ _ _, _, _ => trivial
  | .lrs _ _ _ _, _, _ => trivial
theorem RL.len {E : Env} {w : World} : ∀ (vs : List V) (xs : List Value), RL E w vs xs → lensOk vs
  | [], _, _ => trivial
  | v :: vs, xs, h => by simp only [RL] at h; obtain ⟨y, ys, _, h1, h2⟩ := h; exact ⟨R.len v y h1, RL.len vs ys h2⟩
theorem RM.len {E : Env} {w : World} : ∀ (vs : List V) (b off : Nat), RM E w vs b off → lensOk vs
  | [], _, _, _ => trivial
  | v :: vs, b, off, h => by simp only [RM] at h; obtain ⟨⟨y, _, h1⟩, h2⟩ := h; exact ⟨R.len v y h1, RM.len vs b _ h2⟩
theorem RE.len {E : Env} {w : World} : ∀ (es : List (List V)) (b off sz : Nat), RE E w es b off sz → lenssOk es
  | [], _, _, _, _ => trivial
  | e :: es, b, off, sz, h => by simp only [RE] at h; exact ⟨RM.len e b off h.2.1, RE.len es b _ sz h.2.2⟩
end

theorem lenssOk.at {es : List (List V)} (h : lenssOk es) : ∀ k, lensOk (es.getD k []) := by
  induction es with
  | nil => intro k; simp [lensOk]
  | cons e es ih =>
    intro k
    cases k with
    | zero => exact h.1
    | succ k => exact ih h.2 k

/-- A contract, where nothing that was handed over is too long. -/
theorem Spec.strip' {P : Program} {f : FuncId} {n : Nat} {rs : List ResultVar} {args : List V} {M : Heap} {Post : V → Heap → Prop} {sc : SC} (esc : Nat → Bool) (hf : FnOk P f n rs sc) (ha : args.length ≤ n)
    (h : lensOk args → wps P n esc sc (endQ P rs Post) ⟨fun t => args.getD t (.tup []), M, fun _ => 0⟩) : Spec P f args M Post := by
  have hf' := hf
  obtain ⟨hmix, fn, h1, h2, h3, h4, h5, h6⟩ := hf'
  refine ⟨⟨fn, h1, h2, ?_⟩, fun E w xs k1 k2 k3 k4 k5 => (Spec.strip esc hf ha (h (RL.len _ _ k3))).2 E w xs k1 k2 k3 k4 k5⟩
  cases hb : fn.body with
  | none => rw [hb] at h5; cases h5
  | some c => rfl
end Go.Eng
