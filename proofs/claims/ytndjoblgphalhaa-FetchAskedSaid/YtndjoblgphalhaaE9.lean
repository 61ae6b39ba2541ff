/- The engine, part 9: soundness of 'opw'. -/
import Derived.Test.YtndjoblgphalhaaE8
namespace Go.Eng
set_option linter.unusedSimpArgs false
set_option linter.unusedVariables false

section
variable {P : Program} {E0 E : Env} {w0 w : World} {n : Nat} {st : St} {a : Act} {esc : Nat → Bool} {K : St → Prop} {Q : Exit → Act → World → Prop}

/-- What a callee sees: no local variable; ours belong to others. -/
def callee (E : Env) : Env := { ob := E.ob, bx := fun _ _ => none, ex := fun b => E.ex b ∨ ∃ s g, E.bx s g = some b }
def back (E E' : Env) : Env := { ob := E'.ob, bx := E.bx, ex := E.ex }

theorem callee_own (E : Env) (b : Nat) : (callee E).own b ↔ E.own b := by
  unfold Env.own callee
  simp
  constructor
  · rintro (h | h | h)
    · exact .inl h
    · exact .inr (.inr h)
    · exact .inr (.inl h)
  · rintro (h | h | h)
    · exact .inl h
    · exact .inr (.inr h)
    · exact .inr (.inl h)

theorem later_callee (E : Env) (w : World) : Later E w (callee E) w := ⟨Nat.le_refl _, fun _ _ h => h, fun b _ h => (callee_own E b).1 h, fun _ _ _ => rfl⟩

theorem inv_callee (h : Inv E0 w0 E w) : Inv (callee E) w (callee E) w where
  size := Nat.le_refl _
  obm := fun _ _ hb => hb
  obn := fun _ _ hb _ => hb
  bxn := fun s g b hb => by simp [callee] at hb
  ex := rfl
  exlt := fun b hb => by
    rcases hb with hb | ⟨s, g, hb⟩
    · rw [h.ex] at hb; have := h.exlt b hb; have := h.size; omega
    · exact h.bxlt s g b hb
  keep := fun _ _ _ => rfl
  os := rfl
  tape := rfl
  output := rfl
  oblt := h.oblt
  bxlt := fun s g b hb => by simp [callee] at hb
  obinj := h.obinj
  bxinj := fun s g s' g' b hb => by simp [callee] at hb
  obbx := fun o s g b _ hb => by simp [callee] at hb
  fin := h.fin

theorem own_back {E' : Env} {b : Nat} {w' : World} (hi : Inv (callee E) w E' w') (h : (back E E').own b) : E'.own b := by
  rcases h with h | ⟨s, g, h⟩ | h
  · exact .inl h
  · exact .inr (.inr (by rw [hi.ex]; exact .inr ⟨s, g, h⟩))
  · exact .inr (.inr (by rw [hi.ex]; exact .inl h))

theorem later_back {E' : Env} {w' : World} (hi : Inv (callee E) w E' w') : Later E' w' (back E E') w' :=
  ⟨Nat.le_refl _, fun _ _ h => h, fun b _ h => own_back hi h, fun _ _ _ => rfl⟩

/-- Behind a call. -/
theorem later_call (h : Inv E0 w0 E w) {E' : Env} {w' : World} (hi : Inv (callee E) w E' w') : Later E w (back E E') w' where
  size := hi.size
  ob := fun o b hb => hi.obm o b hb
  own := fun b hb ho => by
    rcases ho with ⟨o, ho⟩ | ho | ho
    · exact .inl ⟨o, hi.obn o b ho hb⟩
    · exact .inr (.inl ho)
    · exact .inr (.inr ho)
  keep := fun b hb hn => hi.keep b hb (fun o ho => hn (.inl ⟨o, ho⟩))

theorem inv_call (h : Inv E0 w0 E w) {E' : Env} {w' : World} (hi : Inv (callee E) w E' w') : Inv E0 w0 (back E E') w' where
  size := Nat.le_trans h.size hi.size
  obm := fun o b hb => hi.obm o b (h.obm o b hb)
  obn := fun o b hb hlt => h.obn o b (hi.obn o b hb (Nat.lt_of_lt_of_le hlt h.size)) hlt
  bxn := h.bxn
  ex := h.ex
  exlt := h.exlt
  keep := fun b hb hn => by
    rw [hi.keep b (Nat.lt_of_lt_of_le hb h.size) (fun o ho => hn o (h.obn o b ho hb))]
    exact h.keep b hb hn
  os := hi.os.trans h.os
  tape := hi.tape.trans h.tape
  output := hi.output.trans h.output
  oblt := hi.oblt
  bxlt := fun s g b hb => Nat.lt_of_lt_of_le (h.bxlt s g b hb) hi.size
  obinj := hi.obinj
  bxinj := h.bxinj
  obbx := fun o s g b hb hs => h.obbx o s g b (hi.obn o b hb (h.bxlt s g b hs)) hs
  fin := hi.fin

theorem RS.call (h : Inv E0 w0 E w) {E' : Env} {w' : World} (hi : Inv (callee E) w E' w') {t : Nat} : ∀ {v : V} {x : Value}, RS E w t v x → RS (back E E') w' t v x
  | .box g cs, x, hr => by
    simp only [RS] at hr ⊢
    obtain ⟨b, arr, ty, h1, rfl, h3, h4⟩ := hr
    exact ⟨b, arr, ty, h1, rfl, by rw [hi.keep b (h.bxlt _ _ _ h1) (fun o ho => h.obbx o t g b ho h1)]; exact h3, RL.later (later_call h hi) _ _ h4⟩
  | .itr g s pos, x, hr => by
    simp only [RS] at hr ⊢
    obtain ⟨b, h1, rfl, h3, h4⟩ := hr
    exact ⟨b, h1, rfl, by rw [hi.keep b (h.bxlt _ _ _ h1) (fun o ho => h.obbx o t g b ho h1)]; exact h3, h4⟩
  | .lref s g off, x, hr => by simp only [RS] at hr ⊢; exact hr
  | .when c v, x, hr => by
    simp only [RS] at hr ⊢
    exact ⟨fun hc => RS.call h hi (hr.1 hc), hr.2⟩
  | .any, x, hr => by simp only [RS] at hr ⊢; exact R.later (later_call h hi) _ _ hr
  | .bool _, x, hr => by simp only [RS] at hr ⊢; exact R.later (later_call h hi) _ _ hr
  | .int _ _, x, hr => by simp only [RS] at hr ⊢; exact R.later (later_call h hi) _ _ hr
  | .str _, x, hr => by simp only [RS] at hr ⊢; exact R.later (later_call h hi) _ _ hr
  | .agg _, x, hr => by simp only [RS] at hr ⊢; exact R.later (later_call h hi) _ _ hr
  | .tup _, x, hr => by simp only [RS] at hr ⊢; exact R.later (later_call h hi) _ _ hr
  | .lst _, x, hr => by simp only [RS] at hr ⊢; exact R.later (later_call h hi) _ _ hr
  | .nilp, x, hr => by simp only [RS] at hr ⊢; exact R.later (later_call h hi) _ _ hr
  | .ptr _ _, x, hr => by simp only [RS] at hr ⊢; exact R.later (later_call h hi) _ _ hr
  | .eref _ _, x, hr => by simp only [RS] at hr ⊢; exact R.later (later_call h hi) _ _ hr
  | .nilm, x, hr => by simp only [RS] at hr ⊢; exact R.later (later_call h hi) _ _ hr
  | .map _, x, hr => by simp only [RS] at hr ⊢; exact R.later (later_call h hi) _ _ hr
  | .fn _ _ _, x, hr => by simp only [RS] at hr ⊢; exact R.later (later_call h hi) _ _ hr
  | .nilf, x, hr => by simp only [RS] at hr ⊢; exact R.later (later_call h hi) _ _ hr
  | .iface _ _, x, hr => by simp only [RS] at hr ⊢; exact R.later (later_call h hi) _ _ hr
  | .nili, x, hr => by simp only [RS] at hr ⊢; exact R.later (later_call h hi) _ _ hr

theorem callV_sound {c : Call} {g : Prop} {id : FuncId} {vs : List V} {type : TypeId} (hf : FR E w st.fr a.tmps) (h : callV st.fr c = some (g, id, vs)) (hc : g) :
    ∃ xs : Array Value, (do let d ← resolve a.eval c type; invoke d.target d.args : Sem Next).run P w = (callFunc id xs).run P w ∧ RL E w vs xs.toList := by
  obtain ⟨cal, args, ts⟩ := c
  unfold callV at h
  split at h <;> try (simp at h; done)
  rename_i f hcal
  simp only at hcal; subst hcal
  split at h <;> simp at h
  rename_i g1 id' first cap g2 vs' h1 h2
  obtain ⟨e, rfl, rfl⟩ := h
  obtain ⟨k1, k2⟩ := e.2 hc
  have hx := opv_sound h1 k1 hf
  simp only [RO, R] at hx
  obtain ⟨xs, ys, hx, hl1, hl2⟩ := hx
  have hl3 := opvs_sound hf h2 k2
  refine ⟨xs ++ args.map a.eval ++ ys, ?_, ?_⟩
  · simp [resolve, Deferred.ofValue, hx, invoke]
  · simpa using (hl1.append hl3).append hl2

/-- A call. -/
theorem call_sound {o : Oper} {c : Call} {id : FuncId} {vs : List V} {xs : Array Value} {Post : V → Heap → Prop} (h : RSt E0 w0 n E w st a) (hd : ∀ d, o.dst = some d → d < n)
    (hs : Spec P id vs st.M Post) (hl : RL E w vs xs.toList) (hk : ∀ r M', Post r M' → K (setD { st with M := M' } o.dst r)) :
    o.upon P a (Nxt E0 w0 n K) Q ((callFunc id xs).run P w) := by
  obtain ⟨⟨fn, hfn, hname, hbody⟩, hcall⟩ := hs
  have hrun : (callFunc id xs).run P w = .ok (.enter id xs) w := by
    have h1 : fn.name ≠ "runtime.NumGoroutine" := by simpa using hname
    have h2 : fn.body ≠ none := by intro e; simp [e] at hbody
    simp [callFunc, hfn, h1, h2]
  rw [hrun, Oper.upon_enter]
  have hlat := later_callee E w
  refine (hcall (callee E) w xs (fun _ _ => rfl) (inv_callee h.inv) (RL.later hlat _ _ hl) (fun o ho hM => ?_)).mono fun e w' he => ?_
  · obtain ⟨b, hb, hr⟩ := h.heap o ho hM
    exact ⟨b, hb, hr.later hlat rfl⟩
  · obtain ⟨x, r, M', E', rfl, hp, hr, hm, hi⟩ := he
    refine ⟨back E E', setD { st with M := M' } o.dst r, ?_, hk r M' hp⟩
    have hb := later_back hi
    have h' : RSt E0 w0 n (back E E') w' { st with M := M' } a := by
      refine ⟨inv_call h.inv hi, fun t => RS.call h.inv hi (h.fr t), h.size, fun o ho hM => ?_, h.defers, h.gens⟩
      obtain ⟨b, hb', hr'⟩ := hm o ho hM
      exact ⟨b, hb', hr'.later hb rfl⟩
    exact h'.put hd (fun t => RS.of_RO (RO.of_R (R.later hb _ _ hr)))

theorem set_obj {b : Nat} {o o' : Obj} (h : w.heap[b]? = some o) : ({ w with heap := w.heap.setIfInBounds b o' } : World).heap[b]? = some o' ∧ Wr w { w with heap := w.heap.setIfInBounds b o' } b := by
  have hlt := lt_of_heap h
  refine ⟨by simp [hlt], by simp, fun k hk => ?_, rfl, rfl, rfl⟩
  simp only
  rw [Array.getElem?_setIfInBounds_ne (Ne.symm hk)]

/-- A heap object that is a map, or an iterator's block in a slot: written as a whole. -/
theorem heap_write {b ob : Nat} {w' : World} (h : RSt E0 w0 n E w st a) (hb : E.ob ob = some b) (hw : Wr w w' b) {ho : HObj} (hobj : ∀ (hl : Later E w E w'), objAt E w' ho b) : RSt E0 w0 n E w' { st with M := updH st.M ob ho } a := by
  have hown : E.own b := .inl ⟨ob, hb⟩
  have hlat := hw.later hown
  refine ⟨hw.inv h.inv (by
      rcases Nat.lt_or_ge b w0.heap.size with hlt | hge
      · exact .inr ⟨ob, h.inv.obn ob b hb hlt⟩
      · exact .inl hge), fun t => RS.wr hw hown (fun g2 e => h.inv.obbx _ _ _ _ hb e) (h.fr t), h.size, ?_, h.defers, h.gens⟩
  intro o' ho' hM'
  simp only [updH] at hM'
  split at hM'
  · cases hM'; subst_vars
    exact ⟨b, hb, hobj hlat⟩
  · rename_i hne
    obtain ⟨b', hb', hr⟩ := h.heap o' ho' hM'
    exact ⟨b', hb', hr.later hlat (hw.other b' (fun e => hne (h.inv.obinj _ _ _ hb' (e ▸ hb))))⟩

theorem opw_sound {o : Oper} (h : RSt E0 w0 n E w st a) (hd : ∀ d, o.dst = some d → d < n) (hk : opw P esc o K st) : o.wp P a w (Nxt E0 w0 n K) Q := by
  obtain ⟨dst, op, type, pos, after, guard⟩ := o
  unfold Oper.wp
  unfold opw at hk
  split at hk
  all_goals subst_vars
  · -- box
    rename_i t x
    split at hk <;> try (exact hk.elim)
    rename_i g v h1
    obtain ⟨k1, k2, k3⟩ := hk
    have hx := (opv_sound h1 k1 h.fr).of_tag (by omega)
    have := newVar_sound (ty := t) (arr := (a.eval x).cells) h hd k3 (R.cells' k2 hx)
    simp only [execOp, Instr.box, newVar, newRow, Sem.run_bind, run_newObj, Sem.run_pure, Result.andThen_ok, Oper.upon_value]
    exact this
  · -- alloc
    rename_i t
    split at hk <;> try (exact hk.elim)
    rename_i z hz
    obtain ⟨x, hx, hr⟩ := zeroV_sound (P := P) (E := E) (w := w) hz
    have hzt : z ≠ .any := by
      intro e; subst e
      unfold zeroV at hz
      split at hz
      · split at hz
        · split at hz <;> simp at hz
        · unfold constV at hz; split at hz <;> simp at hz
        · simp at hz
      · simp at hz
    have := newVar_sound (ty := t) (arr := x.cells) h hd hk (R.cells hzt hr)
    simp only [execOp, Instr.alloc, newVar, newRow, Sem.run_bind, hx, run_newObj, Sem.run_pure, Result.andThen_ok, Oper.upon_value]
    exact this
  · -- store
    rename_i t ad x
    split at hk <;> try (exact hk.elim)
    rename_i T g av g' v ht h1 h2
    split at hk <;> try (exact hk.elim)
    rename_i g'' st' hs
    obtain ⟨k1, k2, k3, k4, k5, k6, k7⟩ := hk
    have hx := (opv_sound h2 k2 h.fr).of_tag (by omega)
    obtain ⟨b, off, w', he, hrun, hst⟩ := storeTo_sound (P := P) (o := ⟨dst, .store t ad x, type, pos, after, guard⟩) h hs k3 (opv_sound h1 k1 h.fr) (R.cells' k5 hx) k6
    have hlen := (R.cells' k5 hx).length
    simp at hlen
    have : (Instr.storeAt t (a.eval ad) (a.eval x)).run P w = .ok () w' := by
      have hsz : (a.eval x).cells.size = T.size := by omega
      simp [Instr.storeAt, he, Instr.sureAddr, storeVar, run_sizeOf ht, hsz, hrun]
    simp only [execOp, Sem.run_bind, this, Result.andThen_ok, Sem.run_pure, Oper.upon_skip]
    exact ⟨E, _, hst.put hd RS_tupnil, k7⟩
  · -- mapUpdate
    rename_i t m k x
    split at hk <;> try (exact hk.elim)
    rename_i kt et g ob g' kv g'' v hu h1 h2 h3
    split at hk <;> try (exact hk.elim)
    rename_i d kvs hd' hM
    split at hk <;> try (exact hk.elim)
    rename_i r hr
    obtain ⟨k1, k2, k3, k4, k5, k6⟩ := hk
    have hm := opv_sound h1 k1 h.fr
    simp only [RO, R] at hm
    obtain ⟨b, hb, hm⟩ := hm
    have hkey := (opv_sound h2 k2 h.fr).toR (fun s g o e => by subst e; cases d <;> simp [keyKind] at k4)
    have hv := (opv_sound h3 k3 h.fr).of_tag (by omega)
    obtain ⟨b', hb', es, clock, hh, hkv⟩ := h.heap ob _ hM
    rw [hb] at hb'; cases hb'
    have hck := checkKey_ok (P := P) (w := w) hd' k4 hkey false
    have hget : (getObj b).run P w = .ok (.map es clock) w := by simp [getObj, Sem.run, hh]
    have hset : ∀ o', (setObj b o').run P w = .ok () { w with heap := w.heap.setIfInBounds b o' } := fun o' => by simp [setObj, Sem.run, hh]
    rcases mem_setKV k4 hkey hv kvs r es.toList 0 hr hkv with ⟨g1, g2⟩ | ⟨j, z, g1, g2, g3, g4⟩
    · have hfk : (Instr.findKey kt (a.eval k) es.toList).run P w = .ok none w := by simp [Instr.findKey, run_underlying hd', g1]
      have hrun : (Instr.mapUpdate t (a.eval m) (a.eval k) (a.eval x)).run P w = .ok () { w with heap := w.heap.setIfInBounds b (.map (es.push { key := a.eval k, val := a.eval x, born := clock }) (clock + 1)) } := by
        simp [Instr.mapUpdate, run_underlying hu, hm, hget, hck, hfk, hset]
      simp only [execOp, Sem.run_bind, hrun, Result.andThen_ok, Sem.run_pure, Oper.upon_skip]
      obtain ⟨w1, w2⟩ := set_obj (w := w) (o' := .map (es.push { key := a.eval k, val := a.eval x, born := clock }) (clock + 1)) hh
      exact ⟨E, _, (heap_write h hb w2 (ho := .map r) (fun hl => ⟨_, _, w1, RKV.later hl (by simpa using g2 clock)⟩)).put hd RS_tupnil, k6⟩
    · simp only [Nat.zero_add] at g1
      have hfk : (Instr.findKey kt (a.eval k) es.toList).run P w = .ok (some (j, z)) w := by simp [Instr.findKey, run_underlying hd', g1]
      simp at g2
      have hej : es[j]? = some es[j] := by simp [g2]
      have hstay : (Instr.keyThatStays (((es[j]?).map (·.key)).getD (a.eval k)) (a.eval k)).run P w = .ok (a.eval k) w := by
        have : Instr.sameBits 10000 (((es[j]?).map (·.key)).getD (a.eval k)) (a.eval k) = true := by simpa using g3
        unfold Instr.keyThatStays
        rw [if_pos this]; rfl
      have hrun : (Instr.mapUpdate t (a.eval m) (a.eval k) (a.eval x)).run P w = .ok () { w with heap := w.heap.setIfInBounds b (.map (es.modify j fun e => { e with key := a.eval k, val := a.eval x }) clock) } := by
        simp only [Instr.mapUpdate, Sem.run_bind, run_underlying hu, Result.andThen_ok, hm, hget, hck, hfk, hstay, hset]
      simp only [execOp, Sem.run_bind, hrun, Result.andThen_ok, Sem.run_pure, Oper.upon_skip]
      obtain ⟨w1, w2⟩ := set_obj (w := w) (o' := .map (es.modify j fun e => { e with key := a.eval k, val := a.eval x }) clock) hh
      exact ⟨E, _, (heap_write h hb w2 (ho := .map r) (fun hl => ⟨_, _, w1, RKV.later hl (by simpa using g4)⟩)).put hd RS_tupnil, k6⟩
  · -- makeMap
    rename_i t
    split at hk <;> try (exact hk.elim)
    rename_i d hdst
    simp only at hdst; subst hdst
    obtain ⟨N, hN⟩ := h.inv.fin
    have hnone := hN N (Nat.le_refl _)
    have hM : st.M N = none := by
      cases hM : st.M N with
      | none => rfl
      | some ho => obtain ⟨b, hb, _⟩ := h.heap N ho hM; rw [hnone] at hb; cases hb
    have hg := grow_ob h.inv hnone (.map #[] 0)
    have hrun : (execOp a.eval ⟨some d, .makeMap t none, type, pos, after, guard⟩).run P w = .ok (.value (.map (some w.heap.size))) (w.alloc (.map #[] 0)) := by
      simp [execOp, Instr.makeMap]
    rw [hrun, Oper.upon_value]
    refine ⟨newOb E N w.heap.size, _, upd_dst h (hd d rfl) hg (inv_ob h.inv hnone _) (v := .map N) ?_ (M' := updH st.M N (.map [])) ?_ h.gens, hk N hM⟩
    · simp only [RS, R]; exact ⟨w.heap.size, by simp [newOb], rfl⟩
    · intro o' ho hM'
      simp only [updH] at hM'
      split at hM'
      · cases hM'; subst_vars
        exact ⟨w.heap.size, by simp [newOb], #[], 0, heap_new _, by simp [RKV]⟩
      · obtain ⟨b, hb, hr⟩ := (h.heap.grow hg) o' ho hM'
        exact ⟨b, hb, hr⟩
  · -- range
    rename_i t x
    split at hk <;> try (exact hk.elim)
    rename_i g s d hu h1 hdst
    simp only at hdst; subst hdst
    obtain ⟨k1, k2⟩ := hk
    have hx := opv_sound h1 k1 h.fr
    simp only [RO, R] at hx
    obtain ⟨hx, hl⟩ := hx
    have hnone := h.gens d (st.gen d) (Nat.le_refl _)
    have hg := grow_box h.inv hnone (.stringIter ⟨⟨s⟩⟩ 0)
    have hrun : (execOp a.eval ⟨some d, .range t x, type, pos, after, guard⟩).run P w = .ok (.value (.pointer (some ⟨w.heap.size, 0, none⟩))) (w.alloc (.stringIter ⟨⟨s⟩⟩ 0)) := by
      simp [execOp, Instr.range, run_underlying hu, hx]
    rw [hrun, Oper.upon_value]
    refine ⟨newBox E d (st.gen d) w.heap.size, _, upd_dst h (hd d rfl) hg (inv_box h.inv hnone _) (v := .itr (st.gen d) s 0) ?_ (M' := st.M) (h.heap.grow hg) (gens_box h d), k2⟩
    simp only [RS]
    exact ⟨w.heap.size, by simp [newBox], rfl, heap_new _, hl⟩
  · -- next
    rename_i t
    split at hk <;> try (exact hk.elim)
    rename_i g s p hfr
    obtain ⟨k1, k2⟩ := hk
    have hsl := h.fr t
    rw [hfr] at hsl
    simp only [RS] at hsl
    obtain ⟨b, hb, hx, hh, hl⟩ := hsl
    have hx' : a.eval (.tmp t) = .pointer (some ⟨b, 0, none⟩) := hx
    have hsz : (⟨⟨s⟩⟩ : ByteArray).size = s.length := rfl
    have hget : (getObj b).run P w = .ok (.stringIter ⟨⟨s⟩⟩ p) w := by simp [getObj, Sem.run, hh]
    by_cases hlt : p < s.length
    · have hset : ∀ o', (setObj b o').run P w = .ok () { w with heap := w.heap.setIfInBounds b o' } := fun o' => by simp [setObj, Sem.run, hh]
      have hrun : (execOp a.eval ⟨dst, .next (.tmp t) true, type, pos, after, guard⟩).run P w = .ok (.value (.tuple #[.bool true, goInt p, .int .i32 (Utf8.decode ⟨⟨s⟩⟩ p).1])) { w with heap := w.heap.setIfInBounds b (.stringIter ⟨⟨s⟩⟩ (p + (Utf8.decode ⟨⟨s⟩⟩ p).2)) } := by
        simp only [execOp, hx', Instr.next, Sem.run_bind, hget, Result.andThen_ok, hsz, if_pos hlt, hset, Sem.run_pure]
      rw [hrun, Oper.upon_value]
      obtain ⟨w1, w2⟩ := set_obj (w := w) (o' := .stringIter ⟨⟨s⟩⟩ (p + (Utf8.decode ⟨⟨s⟩⟩ p).2)) hh
      have hown : E.own b := .inr (.inl ⟨t, g, hb⟩)
      have hlat := w2.later hown
      have h' : RSt E0 w0 n E { w with heap := w.heap.setIfInBounds b (.stringIter ⟨⟨s⟩⟩ (p + (Utf8.decode ⟨⟨s⟩⟩ p).2)) } { st with fr := upd st.fr t (.itr g s (p + (Utf8.decode ⟨⟨s⟩⟩ p).2)) } a := by
        refine ⟨w2.inv h.inv (.inl (h.inv.bxn t g b hb)), fun t' => ?_, h.size, fun o' ho' hM' => ?_, h.defers, h.gens⟩
        · simp only [upd]
          by_cases ht : t' = t
          · subst ht
            simp only [if_true, RS]
            exact ⟨b, hb, hx, w1, hl⟩
          · rw [if_neg ht]
            exact RS.wr w2 hown (fun g2 e => ht (h.inv.bxinj _ _ _ _ _ e hb).1) (h.fr t')
        · obtain ⟨b', hb', hr⟩ := h.heap o' ho' hM'
          exact ⟨b', hb', hr.later hlat (w2.other b' (fun e => h.inv.obbx _ _ _ _ hb' (e ▸ hb)))⟩
      refine ⟨E, _, h'.put hd (v := .tup [.bool true, .int .i64 p, .int .i32 (Utf8.decode ⟨⟨s⟩⟩ p).1]) (fun t' => ?_), k1 hlt⟩
      simp only [RS, R, goInt]
      exact ⟨_, rfl, by simp [RL, R]⟩
    · have hrun : (execOp a.eval ⟨dst, .next (.tmp t) true, type, pos, after, guard⟩).run P w = .ok (.value (.tuple #[.bool false])) w := by
        simp only [execOp, hx', Instr.next, Sem.run_bind, hget, Result.andThen_ok, hsz, if_neg hlt, Sem.run_pure]
      rw [hrun, Oper.upon_value]
      refine ⟨E, _, h.put hd (v := .tup [.bool false]) (fun t' => ?_), k2 (by omega)⟩
      simp only [RS, R]
      exact ⟨_, rfl, by simp [RL, R]⟩
  · -- call
    rename_i f args ts
    split at hk <;> try (exact hk.elim)
    rename_i g id vs h1
    obtain ⟨k1, Post, k2, k3⟩ := hk
    obtain ⟨xs, hrun, hl⟩ := callV_sound (P := P) (w := w) (type := type) h.fr h1 k1
    simp only [execOp]
    rw [hrun]
    exact call_sound (o := ⟨dst, .call ⟨.value f, args, ts⟩, type, pos, after, guard⟩) (c := ⟨.value f, args, ts⟩) h hd k2 hl k3
  · -- the rest
    rename_i op' _ _ _ _ _ _ _ _
    split at hk <;> try (exact hk.elim)
    rename_i g v h1
    obtain ⟨x, hx, hr⟩ := evalQ_sound (o := ⟨dst, op, type, pos, after, guard⟩) h1 hk.1 h.fr h.heap
    rw [hx, Oper.upon_value]
    exact ⟨E, _, h.put hd (fun t => RS.of_RO hr), hk.2⟩
end
end Go.Eng
