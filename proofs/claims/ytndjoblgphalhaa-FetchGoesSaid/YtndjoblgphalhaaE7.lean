/- The engine, part 7: what is kept when memory grows or is written. -/
import Derived.Test.YtndjoblgphalhaaE6
namespace Go.Eng
set_option linter.unusedSimpArgs false
set_option linter.unusedVariables false

/-- A state: what stands in the slots, what lies on the heap, and how many variables each slot has had. -/
structure St where
  fr : Nat → V
  M : Heap
  gen : Nat → Nat

def upd (fr : Nat → V) (d : Nat) (v : V) : Nat → V := fun s => if s = d then v else fr s
def bump (gen : Nat → Nat) (d : Nat) : Nat → Nat := fun s => if s = d then gen d + 1 else gen s
def updH (M : Heap) (o : Nat) (h : HObj) : Heap := fun k => if k = o then some h else M k

/-- A world 'w', of which a function that was entered in 'w0' may be proud. -/
structure Inv (E0 : Env) (w0 : World) (E : Env) (w : World) : Prop where
  size : w0.heap.size ≤ w.heap.size
  obm : ∀ o b, E0.ob o = some b → E.ob o = some b
  obn : ∀ o b, E.ob o = some b → b < w0.heap.size → E0.ob o = some b
  bxn : ∀ s g b, E.bx s g = some b → w0.heap.size ≤ b
  ex : E.ex = E0.ex
  exlt : ∀ b, E0.ex b → b < w0.heap.size
  keep : ∀ b, b < w0.heap.size → (∀ o, E0.ob o ≠ some b) → w.heap[b]? = w0.heap[b]?
  os : w.os = w0.os
  tape : w.tape = w0.tape
  output : w.output = w0.output
  oblt : ∀ o b, E.ob o = some b → b < w.heap.size
  bxlt : ∀ s g b, E.bx s g = some b → b < w.heap.size
  obinj : ∀ o o' b, E.ob o = some b → E.ob o' = some b → o = o'
  bxinj : ∀ s g s' g' b, E.bx s g = some b → E.bx s' g' = some b → s = s' ∧ g = g'
  obbx : ∀ o s g b, E.ob o = some b → E.bx s g ≠ some b
  fin : ∃ N, ∀ o, N ≤ o → E.ob o = none

/-- All blocks that were there are as they were. -/
structure Grow (E : Env) (w : World) (E' : Env) (w' : World) : Prop where
  later : Later E w E' w'
  bx : ∀ s g b, E.bx s g = some b → E'.bx s g = some b
  all : ∀ b, b < w.heap.size → w'.heap[b]? = w.heap[b]?

section
variable {E0 E E' : Env} {w0 w w' : World}

theorem lt_of_heap {b : Nat} {o : Obj} (h : w.heap[b]? = some o) : b < w.heap.size := by
  rcases Nat.lt_or_ge b w.heap.size with h' | h'
  · exact h'
  · simp [Array.getElem?_eq_none h'] at h

theorem RS.grow (h : Grow E w E' w') {t : Nat} : ∀ {v : V} {x : Value}, RS E w t v x → RS E' w' t v x
  | .box g cs, x, hr => by
    simp only [RS] at hr ⊢
    obtain ⟨b, arr, ty, h1, rfl, h3, h4⟩ := hr
    exact ⟨b, arr, ty, h.bx _ _ _ h1, rfl, by rw [h.all b (lt_of_heap h3)]; exact h3, RL.later h.later _ _ h4⟩
  | .itr g s pos, x, hr => by
    simp only [RS] at hr ⊢
    obtain ⟨b, h1, rfl, h3, h4⟩ := hr
    exact ⟨b, h.bx _ _ _ h1, rfl, by rw [h.all b (lt_of_heap h3)]; exact h3, h4⟩
  | .lref s g off, x, hr => by
    simp only [RS] at hr ⊢
    obtain ⟨b, h1, rfl⟩ := hr
    exact ⟨b, h.bx _ _ _ h1, rfl⟩
  | .when c v, x, hr => by
    simp only [RS] at hr ⊢
    exact ⟨fun hc => RS.grow h (hr.1 hc), hr.2⟩
  | .any, x, hr => by simp only [RS] at hr ⊢; exact R.later h.later _ _ hr
  | .bool _, x, hr => by simp only [RS] at hr ⊢; exact R.later h.later _ _ hr
  | .int _ _, x, hr => by simp only [RS] at hr ⊢; exact R.later h.later _ _ hr
  | .str _, x, hr => by simp only [RS] at hr ⊢; exact R.later h.later _ _ hr
  | .agg _, x, hr => by simp only [RS] at hr ⊢; exact R.later h.later _ _ hr
  | .tup _, x, hr => by simp only [RS] at hr ⊢; exact R.later h.later _ _ hr
  | .lst _, x, hr => by simp only [RS] at hr ⊢; exact R.later h.later _ _ hr
  | .nilp, x, hr => by simp only [RS] at hr ⊢; exact R.later h.later _ _ hr
  | .ptr _ _, x, hr => by simp only [RS] at hr ⊢; exact R.later h.later _ _ hr
  | .eref _ _, x, hr => by simp only [RS] at hr ⊢; exact R.later h.later _ _ hr
  | .nilm, x, hr => by simp only [RS] at hr ⊢; exact R.later h.later _ _ hr
  | .map _, x, hr => by simp only [RS] at hr ⊢; exact R.later h.later _ _ hr
  | .fn _ _ _, x, hr => by simp only [RS] at hr ⊢; exact R.later h.later _ _ hr
  | .nilf, x, hr => by simp only [RS] at hr ⊢; exact R.later h.later _ _ hr
  | .iface _ _, x, hr => by simp only [RS] at hr ⊢; exact R.later h.later _ _ hr
  | .nili, x, hr => by simp only [RS] at hr ⊢; exact R.later h.later _ _ hr

theorem FR.grow (h : Grow E w E' w') {fr : Nat → V} {tmps : Array Value} (hf : FR E w fr tmps) : FR E' w' fr tmps := fun t => (hf t).grow h

theorem RKV.later (h : Later E w E' w') : ∀ {kvs : List (V × V)} {es : List MapEntry}, RKV E w kvs es → RKV E' w' kvs es
  | [], es, hr => by simpa [RKV] using hr
  | (k, v) :: kvs, es, hr => by
    simp only [RKV] at hr ⊢
    obtain ⟨e, r, rfl, h1, h2, h3⟩ := hr
    exact ⟨e, r, rfl, R.later h _ _ h1, R.later h _ _ h2, RKV.later h h3⟩

theorem objAt.later (h : Later E w E' w') {ho : HObj} {b : Nat} (hb : w'.heap[b]? = w.heap[b]?) (hr : objAt E w ho b) : objAt E' w' ho b := by
  cases ho with
  | cells cs =>
    obtain ⟨arr, ty, h1, h2⟩ := hr
    exact ⟨arr, ty, by rw [hb]; exact h1, RL.later h _ _ h2⟩
  | map kvs =>
    obtain ⟨es, clock, h1, h2⟩ := hr
    exact ⟨es, clock, by rw [hb]; exact h1, RKV.later h h2⟩

theorem RH.grow (h : Grow E w E' w') {M : Heap} (hm : RH E w M) : RH E' w' M := fun o ho hM => by
  obtain ⟨b, hb, hr⟩ := hm o ho hM
  have hlt : b < w.heap.size := by
    cases ho <;> (obtain ⟨_, _, h1, _⟩ := hr; exact lt_of_heap h1)
  exact ⟨b, h.later.ob _ _ hb, hr.later h.later (h.all b hlt)⟩

/-! ### A new block -/
theorem heap_new (o : Obj) : (w.alloc o).heap[w.heap.size]? = some o := by
  show (w.heap.push o)[w.heap.size]? = _
  simp
theorem heap_old (o : Obj) {b : Nat} (h : b < w.heap.size) : (w.alloc o).heap[b]? = w.heap[b]? := by
  show (w.heap.push o)[b]? = _
  rw [Array.getElem?_push, if_neg (by omega)]

def newBox (E : Env) (d g n : Nat) : Env := { E with bx := fun s g' => if s = d ∧ g' = g then some n else E.bx s g' }
def newOb (E : Env) (o n : Nat) : Env := { E with ob := fun k => if k = o then some n else E.ob k }

theorem Inv.exown (h : Inv E0 w0 E w) {b : Nat} (hb : w.heap.size ≤ b) : ¬ E.own b := by
  rintro (⟨o, ho⟩ | ⟨s, g, hs⟩ | he)
  · have := h.oblt o b ho; omega
  · have := h.bxlt s g b hs; omega
  · rw [h.ex] at he; have := h.exlt b he; have := h.size; omega

theorem grow_box (h : Inv E0 w0 E w) {d g : Nat} (hg : E.bx d g = none) (o : Obj) : Grow E w (newBox E d g w.heap.size) (w.alloc o) where
  later := {
    size := by simp
    ob := fun _ _ hb => hb
    own := fun b hb ho => by
      rcases ho with ho | ⟨s, g', hs⟩ | ho
      · exact .inl ho
      · simp only [newBox] at hs
        split at hs
        · simp at hs; omega
        · exact .inr (.inl ⟨s, g', hs⟩)
      · exact .inr (.inr ho)
    keep := fun b hb _ => heap_old o hb }
  bx := fun s g' b hb => by
    simp only [newBox]
    split
    · rename_i hh; obtain ⟨rfl, rfl⟩ := hh; rw [hg] at hb; cases hb
    · exact hb
  all := fun b hb => heap_old o hb

theorem inv_box (h : Inv E0 w0 E w) {d g : Nat} (hg : E.bx d g = none) (o : Obj) : Inv E0 w0 (newBox E d g w.heap.size) (w.alloc o) where
  size := by have := h.size; simp; omega
  obm := h.obm
  obn := h.obn
  bxn := fun s g' b hb => by
    simp only [newBox] at hb
    split at hb
    · simp at hb; have := h.size; omega
    · exact h.bxn _ _ _ hb
  ex := h.ex
  exlt := h.exlt
  keep := fun b hb hn => by rw [heap_old o (by have := h.size; omega)]; exact h.keep b hb hn
  os := h.os
  tape := h.tape
  output := h.output
  oblt := fun o' b hb => by have := h.oblt o' b hb; simp; omega
  bxlt := fun s g' b hb => by
    simp only [newBox] at hb
    split at hb
    · simp at hb; simp; omega
    · have := h.bxlt _ _ _ hb; simp; omega
  obinj := h.obinj
  bxinj := fun s g1 s' g2 b hb hb' => by
    simp only [newBox] at hb hb'
    split at hb <;> split at hb'
    · rename_i h1 h2; exact ⟨by omega, by omega⟩
    · simp at hb; have := h.bxlt _ _ _ hb'; omega
    · simp at hb'; have := h.bxlt _ _ _ hb; omega
    · exact h.bxinj _ _ _ _ _ hb hb'
  obbx := fun o' s g' b hb hs => by
    simp only [newBox] at hs hb
    split at hs
    · simp at hs; have := h.oblt o' b hb; omega
    · exact h.obbx _ _ _ _ hb hs
  fin := h.fin

theorem grow_ob (h : Inv E0 w0 E w) {o : Nat} (ho : E.ob o = none) (x : Obj) : Grow E w (newOb E o w.heap.size) (w.alloc x) where
  later := {
    size := by simp
    ob := fun o' b hb => by
      simp only [newOb]
      split
      · subst_vars; rw [ho] at hb; cases hb
      · exact hb
    own := fun b hb hw => by
      rcases hw with ⟨o', hw⟩ | hw | hw
      · simp only [newOb] at hw
        split at hw
        · simp at hw; omega
        · exact .inl ⟨o', hw⟩
      · exact .inr (.inl hw)
      · exact .inr (.inr hw)
    keep := fun b hb _ => heap_old x hb }
  bx := fun s g' b hb => hb
  all := fun b hb => heap_old x hb

theorem inv_ob (h : Inv E0 w0 E w) {o : Nat} (ho : E.ob o = none) (x : Obj) : Inv E0 w0 (newOb E o w.heap.size) (w.alloc x) where
  size := by have := h.size; simp; omega
  obm := fun o' b hb => by
    simp only [newOb]
    split
    · subst_vars; rw [h.obm _ _ hb] at ho; cases ho
    · exact h.obm _ _ hb
  obn := fun o' b hb hlt => by
    simp only [newOb] at hb
    split at hb
    · simp at hb; have := h.size; omega
    · exact h.obn _ _ hb hlt
  bxn := h.bxn
  ex := h.ex
  exlt := h.exlt
  keep := fun b hb hn => by rw [heap_old x (by have := h.size; omega)]; exact h.keep b hb hn
  os := h.os
  tape := h.tape
  output := h.output
  oblt := fun o' b hb => by
    simp only [newOb] at hb
    split at hb
    · simp at hb; simp; omega
    · have := h.oblt _ _ hb; simp; omega
  bxlt := fun s g' b hb => by have := h.bxlt s g' b hb; simp; omega
  obinj := fun o1 o2 b hb hb' => by
    simp only [newOb] at hb hb'
    split at hb <;> split at hb'
    · omega
    · simp at hb; have := h.oblt _ _ hb'; omega
    · simp at hb'; have := h.oblt _ _ hb; omega
    · exact h.obinj _ _ _ hb hb'
  bxinj := h.bxinj
  obbx := fun o' s g' b hb hs => by
    simp only [newOb] at hb hs
    split at hb
    · simp at hb; have := h.bxlt s g' b hs; omega
    · exact h.obbx _ _ _ _ hb hs
  fin := by
    obtain ⟨N, hN⟩ := h.fin
    refine ⟨max N (o + 1), fun k hk => ?_⟩
    simp only [newOb]
    rw [if_neg (by omega)]
    exact hN k (by omega)

/-! ### One block that is owned is written -/
structure Wr (w w' : World) (b : Nat) : Prop where
  size : w'.heap.size = w.heap.size
  other : ∀ k, k ≠ b → w'.heap[k]? = w.heap[k]?
  os : w'.os = w.os
  tape : w'.tape = w.tape
  output : w'.output = w.output

theorem Wr.later {b : Nat} (h : Wr w w' b) (ho : E.own b) : Later E w E w' where
  size := by rw [h.size]; exact Nat.le_refl _
  ob := fun _ _ hb => hb
  own := fun _ _ ho => ho
  keep := fun k _ hn => h.other k (fun e => hn (e ▸ ho))

theorem Wr.inv {b : Nat} (h : Wr w w' b) (hi : Inv E0 w0 E w) (ho : w0.heap.size ≤ b ∨ ∃ o, E0.ob o = some b) : Inv E0 w0 E w' where
  size := by rw [h.size]; exact hi.size
  obm := hi.obm
  obn := hi.obn
  bxn := hi.bxn
  ex := hi.ex
  exlt := hi.exlt
  keep := fun k hk hn => by
    rw [h.other k (fun e => by subst e; exact ho.elim (fun h1 => by omega) (fun ⟨o, h1⟩ => hn o h1))]
    exact hi.keep k hk hn
  os := h.os.trans hi.os
  tape := h.tape.trans hi.tape
  output := h.output.trans hi.output
  oblt := fun o b hb => by rw [h.size]; exact hi.oblt o b hb
  bxlt := fun s g b hb => by rw [h.size]; exact hi.bxlt s g b hb
  obinj := hi.obinj
  bxinj := hi.bxinj
  obbx := hi.obbx
  fin := hi.fin

/-- A slot whose own block (if it has one) isn't the one that is written. -/
theorem RS.wr {b : Nat} (h : Wr w w' b) (ho : E.own b) {t : Nat} : ∀ {v : V} {x : Value}, (∀ g, E.bx t g ≠ some b) → RS E w t v x → RS E w' t v x
  | .box g cs, x, hn, hr => by
    simp only [RS] at hr ⊢
    obtain ⟨b', arr, ty, h1, rfl, h3, h4⟩ := hr
    exact ⟨b', arr, ty, h1, rfl, by rw [h.other b' (fun e => hn g (e ▸ h1))]; exact h3, RL.later (h.later ho) _ _ h4⟩
  | .itr g s pos, x, hn, hr => by
    simp only [RS] at hr ⊢
    obtain ⟨b', h1, rfl, h3, h4⟩ := hr
    exact ⟨b', h1, rfl, by rw [h.other b' (fun e => hn g (e ▸ h1))]; exact h3, h4⟩
  | .lref s g off, x, hn, hr => by simpa only [RS] using hr
  | .when c v, x, hn, hr => by
    simp only [RS] at hr ⊢
    exact ⟨fun hc => RS.wr h ho hn (hr.1 hc), hr.2⟩
  | .any, x, hn, hr => by simp only [RS] at hr ⊢; exact R.later (h.later ho) _ _ hr
  | .bool _, x, hn, hr => by simp only [RS] at hr ⊢; exact R.later (h.later ho) _ _ hr
  | .int _ _, x, hn, hr => by simp only [RS] at hr ⊢; exact R.later (h.later ho) _ _ hr
  | .str _, x, hn, hr => by simp only [RS] at hr ⊢; exact R.later (h.later ho) _ _ hr
  | .agg _, x, hn, hr => by simp only [RS] at hr ⊢; exact R.later (h.later ho) _ _ hr
  | .tup _, x, hn, hr => by simp only [RS] at hr ⊢; exact R.later (h.later ho) _ _ hr
  | .lst _, x, hn, hr => by simp only [RS] at hr ⊢; exact R.later (h.later ho) _ _ hr
  | .nilp, x, hn, hr => by simp only [RS] at hr ⊢; exact R.later (h.later ho) _ _ hr
  | .ptr _ _, x, hn, hr => by simp only [RS] at hr ⊢; exact R.later (h.later ho) _ _ hr
  | .eref _ _, x, hn, hr => by simp only [RS] at hr ⊢; exact R.later (h.later ho) _ _ hr
  | .nilm, x, hn, hr => by simp only [RS] at hr ⊢; exact R.later (h.later ho) _ _ hr
  | .map _, x, hn, hr => by simp only [RS] at hr ⊢; exact R.later (h.later ho) _ _ hr
  | .fn _ _ _, x, hn, hr => by simp only [RS] at hr ⊢; exact R.later (h.later ho) _ _ hr
  | .nilf, x, hn, hr => by simp only [RS] at hr ⊢; exact R.later (h.later ho) _ _ hr
  | .iface _ _, x, hn, hr => by simp only [RS] at hr ⊢; exact R.later (h.later ho) _ _ hr
  | .nili, x, hn, hr => by simp only [RS] at hr ⊢; exact R.later (h.later ho) _ _ hr

/-! ### The frame -/
theorem FR.put {fr : Nat → V} {tmps : Array Value} {d : Nat} {v : V} {x : Value} (hf : FR E w fr tmps) (hd : d < tmps.size) (hv : RS E w d v x) : FR E w (upd fr d v) (tmps.setIfInBounds d x) := fun t => by
  unfold upd
  by_cases h : t = d
  · subst h
    have hd' : t < (tmps.setIfInBounds t x).size := by simpa using hd
    simp only [if_true, Array.getD, hd', dif_pos]
    simpa using hv
  · rw [if_neg h]
    have := hf t
    have e : (tmps.setIfInBounds d x).getD t undef = tmps.getD t undef := by
      simp only [Array.getD_eq_getD_getElem?, Array.getElem?_setIfInBounds_ne (Ne.symm h)]
    rw [e]; exact this

/-! ### Storing cells -/
def cellOk (v : V) : Bool := v.tag < 20 && v.tag != 3 && v.tag != 4

theorem cellOk_one {v : V} {x : Value} (hv : cellOk v = true) (h : R E w v x) : x.oneCell' = true := by
  simp only [cellOk, Bool.and_eq_true, decide_eq_true_eq, bne_iff_ne] at hv
  have ht := h.tag hv.1.1
  cases x <;> simp [Value.oneCell', vtag] at * <;> omega

theorem RL.one : ∀ {vs : List V} {xs : List Value}, (∀ c ∈ vs, cellOk c = true) → RL E w vs xs → ∀ x ∈ xs, x.oneCell' = true
  | [], xs, _, h => by simp [RL] at h; subst h; simp
  | v :: vs, xs, ho, h => by
    simp only [RL] at h
    obtain ⟨y, ys, rfl, h1, h2⟩ := h
    intro x hx
    rcases List.mem_cons.1 hx with rfl | hx
    · exact cellOk_one (ho v (by simp)) h1
    · exact RL.one (fun c hc => ho c (by simp [hc])) h2 x hx

theorem storeCells_ok {P : Program} {b off : Nat} {ty : TypeId} : ∀ (vs : List Value) (i : Nat) (w : World) (arr : Array Value), w.heap[b]? = some (.cells arr ty (0, 0)) → off + i + vs.length ≤ arr.size → (∀ v ∈ vs, v.oneCell' = true) →
    ∃ w' arr', (storeCells ⟨b, off, none⟩ vs i).run P w = .ok () w' ∧ w'.heap[b]? = some (.cells arr' ty (0, 0)) ∧ arr'.toList = arr.toList.take (off + i) ++ vs ++ arr.toList.drop (off + i + vs.length) ∧ Wr w w' b
  | [], i, w, arr, hb, _, _ => ⟨w, arr, by simp [storeCells], hb, by simp, rfl, fun _ _ => rfl, rfl, rfl, rfl⟩
  | v :: vs, i, w, arr, hb, hlen, ho => by
    simp only [List.length_cons] at hlen
    have hc : w.cell? ⟨b, off + i, none⟩ = some (arr[off + i]'(by omega)) := by
      simp [World.cell?, hb, Array.getElem?_eq_getElem (show off + i < arr.size by omega)]
    have hz : w.frozen? ⟨b, off + i, none⟩ = false := by simp [World.frozen?, hb]
    have hst : (store ((⟨b, off, none⟩ : Addr).add i) v).run P w = .ok () (w.setCell ⟨b, off + i, none⟩ v) := by
      rw [addr_add, run_store P w _ v _ (ho v (by simp))]
      simp [hc, hz]
    have hb' : (w.setCell ⟨b, off + i, none⟩ v).heap[b]? = some (.cells (arr.setIfInBounds (off + i) v) ty (0, 0)) := by
      simp [World.setCell, Array.getElem?_modify, hb]
    obtain ⟨w', arr', h1, h2, h3, h4⟩ := storeCells_ok (P := P) (b := b) (off := off) (ty := ty) vs (i + 1) _ _ hb' (by simp; omega) (fun x hx => ho x (by simp [hx]))
    refine ⟨w', arr', by simp [storeCells, hst, h1], h2, ?_, ?_⟩
    · rw [h3, show arr.toList.take (off + i) ++ v :: vs = arr.toList.take (off + i) ++ [v] ++ vs by simp]
      have e1 := setRange off [v] arr i (by simp; omega)
      simp only [List.zipIdx_cons, List.zipIdx_nil, List.foldl_cons, List.foldl_nil, List.length_cons, List.length_nil] at e1
      rw [e1]
      have hl1 : (arr.toList.take (off + i) ++ [v]).length = off + i + 1 := by simp; omega
      generalize arr.toList.take (off + i) ++ [v] = A at hl1 e1 ⊢
      rw [show off + (i + 1) = (off + i) + 1 by omega, List.take_append, List.drop_append, hl1]
      rw [List.take_of_length_le (l := A) (by rw [hl1]; omega), List.drop_eq_nil_of_le (as := A) (by rw [hl1]; omega)]
      rw [show off + i + 1 - (off + i + 1) = 0 by omega, show off + i + 1 + vs.length - (off + i + 1) = vs.length by omega]
      simp only [List.take_zero, List.append_nil, List.nil_append, List.drop_drop, List.length_cons]
      rw [show off + i + (0 + 1) + vs.length = off + i + (vs.length + 1) by omega]
    · refine ⟨by rw [h4.size]; simp, fun k hk => ?_, h4.os, h4.tape, h4.output⟩
      rw [h4.other k hk]
      simp only [World.setCell, Array.getElem?_modify]
      rw [if_neg (by omega)]
end
end Go.Eng
