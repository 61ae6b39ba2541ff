/- The engine, part 13: places changed, in a region that draws its order; its soundness. -/
import Derived.Test.YtndjoblgphalhaaE12
namespace Go.Eng
set_option linter.unusedSimpArgs false
set_option linter.unusedVariables false

section
variable {P : Program} {n : Nat} {esc : Nat → Bool} {ops : Array Oper} {m : Bool}

theorem looks_op {o : Oper} {d : Nat} (h : d ∉ o.looksAt ops) : ∀ x ∈ o.op.operands, x ≠ .tmp d := by
  intro x hx e; subst e
  apply h
  simp only [Oper.looksAt, List.mem_append, List.mem_filterMap]
  exact .inl ⟨.tmp d, by simpa using hx, rfl⟩

theorem guardC_upd {fr : Nat → V} {o : Oper} {d : Nat} {v : V} (h : d ∉ o.looksAt ops) : guardC ops (upd fr d v) o.guard = guardC ops fr o.guard := by
  cases hg : o.guard with
  | none => rfl
  | some gd =>
    obtain ⟨j, want⟩ := gd
    simp only [guardC, guardOf]
    cases hj : ops[j]? with
    | none => rfl
    | some oj =>
      simp only
      cases hd : oj.dst with
      | none => rfl
      | some e =>
        have : e ≠ d := by
          intro he; subst he
          apply h
          simp only [Oper.looksAt, List.mem_append]
          right
          simp [hg, hj, hd]
        simp [upd, this]

theorem reads_upd {fr : Nat → V} {o : Oper} {d : Nat} {v : V} (h : d ∉ o.looksAt ops) : reads (upd fr d v) o.op = reads fr o.op := by
  have hx := looks_op h
  cases ho : o.op <;> simp only [reads] <;> rw [ho] at hx
  case load t a => rw [opv_upd (hx a (by simp [Op.operands]))]

/-- What an operation comes to does not hang on a slot that it doesn't look at, nor (where it is blind) on the heap. -/
theorem Det.same {i : Nat} {o : Oper} {st st' : St} {v : V} {b : Bool} (hM : st'.M = st.M ∨ (kindO esc m o = 0 ∧ m = true ∧ blindB esc m ops i = true) ∨ kindO esc m o = 1)
    (hg : guardC ops st'.fr o.guard = guardC ops st.fr o.guard) (hr : reads st'.fr o.op = reads st.fr o.op) (hq : safe st.fr (badD esc ops i) o.op → ∀ M, evalQ P M st'.fr o.op = evalQ P M st.fr o.op)
    (ho : ∀ x ∈ o.op.operands, opv st'.fr x = opv st.fr x) (hc : ∀ cl, o.op = .call cl → callV st'.fr cl = callV st.fr cl) (hgen : ∀ d, o.dst = some d → st'.gen d = st.gen d) (hfs : ∀ t s x, o.op = .store t (.tmp s) x → st'.fr s = st.fr s) (h : Det P n esc ops m i o st v b) : Det P n esc ops m i o st' v b := by
  unfold Det at h ⊢
  refine ⟨h.1, ?_⟩
  have h2 := h.2
  clear h
  split at h2
  · rename_i hk
    have hs : safe st'.fr (badD esc ops i) o.op ↔ safe st.fr (badD esc ops i) o.op := by simp only [safe, hr]
    have hMM : (if m && blindB esc m ops i then emptyH else st'.M) = (if m && blindB esc m ops i then emptyH else st.M) := by
      rcases hM with hM | ⟨_, h1, h2⟩ | hM
      · rw [hM]
      · subst h1; rw [h2]; rfl
      · rw [hk] at hM; cases hM
    split at h2 <;> try (exact h2.elim)
    · rename_i c need u hg' he
      have hsafe := h2.2.1
      rw [hMM, hg, hq hsafe]
      simp only [hg', he]
      rw [hs]; exact h2
    · rename_i c hg' he
      have hsafe := h2.2.2.1
      rw [hMM, hg, hq hsafe]
      simp only [hg', he]
      rw [hs]; exact h2
  · rename_i hk
    split at h2 <;> try (exact h2.elim)
    · rename_i t x d hop hdst
      rw [hop] at ho
      rw [ho x (by simp [Op.operands]), hgen d hdst]
      exact h2
    · rename_i t d hop hdst
      rw [hgen d hdst]
      exact h2
    · rename_i t s x hop hdst
      rw [hop] at ho
      rw [ho x (by simp [Op.operands]), hfs t s x hop]
      exact h2
  · rename_i hk
    split at h2 <;> try (exact h2.elim)
    rename_i c cl hg' hop
    rw [hg]
    simp only [hg', hop]
    rw [hc cl hop]
    have hMM : st'.M = st.M := by
      rcases hM with hM | ⟨h0, _⟩ | h1
      · exact hM
      · rw [hk] at h0; cases h0
      · rw [hk] at h1; cases h1
    rw [hMM]; exact h2
  · exact h2.elim

theorem Det.act {i : Nat} {o : Oper} {od : Option Nat} {st : St} {v v' : V} {b b' : Bool} (h1 : ∀ d, od = some d → d ∉ o.looksAt ops) (h2 : ∀ d, od = some d → dstE esc o ≠ some d) (h3 : ∀ d, od = some d → d ∈ badD esc ops i) :
    Det P n esc ops m i o (act st od v' b') v b ↔ Det P n esc ops m i o st v b := by
  cases hd : od with
  | none => simp [Eng.act]
  | some d =>
    have k1 := h1 d hd
    have k2 := h2 d hd
    have k3 := h3 d hd
    have e0 : (Eng.act st (some d) v' b').M = st.M := rfl
    have e1 : (Eng.act st (some d) v' b').fr = upd st.fr d v' := rfl
    have hgen : ∀ e, o.dst = some e → (Eng.act st (some d) v' b').gen e = st.gen e := fun e he => by
      have : e ≠ d := fun hh => k2 (by rw [← hh]; unfold dstE; rw [he])
      simp only [Eng.act]
      split
      · simp [bump, this]
      · rfl
    have hsafe : ∀ {fr : Nat → V}, safe fr (badD esc ops i) o.op → ∀ s, reads fr o.op = some s → s ≠ d := fun hs s hr e => hs s hr (e ▸ k3)
    constructor
    · intro h
      refine Det.same (.inl e0.symm) (by rw [e1]; exact (guardC_upd k1).symm) (by rw [e1]; exact (reads_upd k1).symm) (fun hs M => ?_) (fun x hx => by rw [e1]; exact (opv_upd (looks_op k1 x hx)).symm) (fun cl hcl => by rw [e1]; exact (callV_upd (fun x hx => looks_op k1 x (by rw [hcl]; exact hx))).symm) (fun e he => (hgen e he).symm) (fun t s x hop => by rw [e1]; have : s ≠ d := fun e => looks_op k1 (.tmp s) (by rw [hop]; simp [Op.operands]) (by rw [e]); simp [upd, this]) h
      rw [e1] at hs ⊢
      have hs' : safe st.fr (badD esc ops i) o.op := by simpa only [safe, reads_upd k1] using hs
      exact (evalQ_upd (looks_op k1) (hsafe hs')).symm
    · intro h
      refine Det.same (.inl e0) (by rw [e1]; exact guardC_upd k1) (by rw [e1]; exact reads_upd k1) (fun hs M => ?_) (fun x hx => by rw [e1]; exact opv_upd (looks_op k1 x hx)) (fun cl hcl => by rw [e1]; exact callV_upd (fun x hx => looks_op k1 x (by rw [hcl]; exact hx))) hgen (fun t s x hop => by rw [e1]; have : s ≠ d := fun e => looks_op k1 (.tmp s) (by rw [hop]; simp [Op.operands]) (by rw [e]); simp [upd, this]) h
      rw [e1]
      exact evalQ_upd (looks_op k1) (hsafe hs)

theorem Det.heap {i : Nat} {o : Oper} {st : St} {M' : Heap} {v : V} {b : Bool} (hM : (kindO esc m o = 0 ∧ m = true ∧ blindB esc m ops i = true) ∨ kindO esc m o = 1) :
    Det P n esc ops m i o (st.withM M') v b ↔ Det P n esc ops m i o st v b := by
  constructor
  · exact Det.same (st := st.withM M') (.inr hM) rfl rfl (fun _ _ => rfl) (fun _ _ => rfl) (fun _ _ => rfl) (fun _ _ => rfl) (fun _ _ _ _ => rfl)
  · exact Det.same (.inr hM) rfl rfl (fun _ _ => rfl) (fun _ _ => rfl) (fun _ _ => rfl) (fun _ _ => rfl) (fun _ _ _ _ => rfl)

theorem Det.one {i : Nat} {o : Oper} {st : St} {v v' : V} {b b' : Bool} (hk : kindO esc m o = 0 ∨ kindO esc m o = 1) (h : Det P n esc ops m i o st v b) (h' : Det P n esc ops m i o st v' b') : v = v' ∧ b = b' := by
  have h2 := h.2
  have h2' := h'.2
  rcases hk with hk | hk <;> simp only [hk] at h2 h2'
  · split at h2 <;> try (exact h2.elim)
    · rename_i c need u hg he
      simp only [hg, he] at h2'
      exact ⟨h2.2.2.1.trans h2'.2.2.1.symm, h2.2.2.2.trans h2'.2.2.2.symm⟩
    · rename_i c hg he
      simp only [hg, he] at h2'
      exact ⟨h2.2.2.2.1.trans h2'.2.2.2.1.symm, h2.2.2.2.2.trans h2'.2.2.2.2.symm⟩
  · split at h2 <;> try (exact h2.elim)
    · rename_i t x d hop hdst
      simp only [hop, hdst] at h2'
      split at h2 <;> try (exact h2.elim)
      rename_i g u ho
      simp only [ho] at h2'
      exact ⟨h2.2.2.1.trans h2'.2.2.1.symm, h2.2.2.2.trans h2'.2.2.2.symm⟩
    · rename_i t d hop hdst
      simp only [hop, hdst] at h2'
      split at h2 <;> try (exact h2.elim)
      rename_i z hz
      simp only [hz] at h2'
      exact ⟨h2.1.trans h2'.1.symm, h2.2.trans h2'.2.symm⟩
    · rename_i t s x hop hdst
      simp only [hop, hdst] at h2'
      split at h2 <;> try (exact h2.elim)
      rename_i T g u g' cs h3 h4 h5
      simp only [h3, h4, h5] at h2'
      exact ⟨h2.2.2.2.2.2.1.trans h2'.2.2.2.2.2.1.symm, h2.2.2.2.2.2.2.trans h2'.2.2.2.2.2.2.symm⟩

theorem May.act {o : Oper} {od : Option Nat} {st : St} {v' : V} {b' : Bool} {S : V → Heap → Prop} (h1 : ∀ d, od = some d → d ∉ o.looksAt ops) : May P n ops o (act st od v' b') S ↔ May P n ops o st S := by
  cases hd : od with
  | none => simp [Eng.act]
  | some d =>
    have k1 := h1 d hd
    have e0 : (Eng.act st (some d) v' b').M = st.M := rfl
    have e1 : (Eng.act st (some d) v' b').fr = upd st.fr d v' := rfl
    unfold May
    rw [e0, e1, guardC_upd k1]
    have hcl : ∀ cl, o.op = .call cl → callV (upd st.fr d v') cl = callV st.fr cl := fun cl hop => callV_upd (fun x hx => looks_op k1 x (by rw [hop]; exact hx))
    cases hop : o.op <;> try exact Iff.rfl
    case call cl => simp only [hcl cl hop]
    case store t a x =>
      have ha : opv (upd st.fr d v') a = opv st.fr a := opv_upd (looks_op k1 a (by rw [hop]; simp [Op.operands]))
      have hx : opv (upd st.fr d v') x = opv st.fr x := opv_upd (looks_op k1 x (by rw [hop]; simp [Op.operands]))
      simp only [ha, hx]

theorem upd_comm (fr : Nat → V) {d e : Nat} (v u : V) (h : d ≠ e) : upd (upd fr d v) e u = upd (upd fr e u) d v := by
  funext s
  simp only [upd]
  split <;> split <;> first | rfl | (exfalso; omega)

theorem act_comm (st : St) {x y : Option Nat} (v u : V) (b c : Bool) (h : ∀ d, x = some d → y ≠ some d) : act (act st x v b) y u c = act (act st y u c) x v b := by
  cases x with
  | none => rfl
  | some d =>
    cases y with
    | none => rfl
    | some e =>
      have hne : d ≠ e := fun hh => h d rfl (by rw [hh])
      simp only [act]
      rw [upd_comm st.fr v u hne]
      congr 1
      cases b <;> cases c <;> simp only [if_true, if_false, Bool.false_eq_true]
      · funext s
        simp only [bump]
        by_cases h1 : s = e
        · subst h1; simp [Ne.symm hne]
        · simp [h1, hne]

theorem dstE_of2 {o : Oper} (h : kindO esc m o = 2) : dstE esc o = o.dst := by
  unfold dstE
  cases hd : o.dst with
  | some d => rfl
  | none =>
    simp only
    cases ho : ownSt esc o with
    | none => rfl
    | some s =>
      exfalso
      have hop : ∃ t a x, o.op = .store t a x := by
        unfold ownSt at ho
        split at ho
        · rename_i h1 _ _; exact ⟨_, _, _, h1⟩
        · cases ho
      obtain ⟨t, a, x, hop⟩ := hop
      unfold kindO at h
      simp only [hop, ho] at h
      cases h

theorem opd_swap {i j : Nat} (h : indB esc ops m i j = true) : Swap (opd P n esc ops m) i j := by
  intro K st H
  unfold indB at h
  split at h <;> try (simp at h; done)
  rename_i oi oj hi hj
  simp only [Bool.and_eq_true] at h
  obtain ⟨⟨⟨hap, hbi⟩, hbj⟩, hkk⟩ := h
  obtain ⟨a1, a2, a3⟩ := apartE_spec hap
  have b1 : ∀ d, dstE esc oi = some d → d ∈ badD esc ops j := fun d hd => by rw [hd] at hbi; simpa using hbi
  have b2 : ∀ d, dstE esc oj = some d → d ∈ badD esc ops i := fun d hd => by rw [hd] at hbj; simpa using hbj
  have a2' : ∀ d, dstE esc oj = some d → dstE esc oi ≠ some d := fun d hd e => a2 d e hd
  -- which forms?
  have hform : ∀ (k : Nat) (o : Oper) (st : St) (K : St → Prop), ops[k]? = some o → kindO esc m o ≠ 3 → opd P n esc ops m k K st =
      (if kindO esc m o == 2 && m then ∃ S, May P n ops o st S ∧ ∀ r M', S r M' → K ((setD st o.dst r).withM M') else ∃ v b, Det P n esc ops m k o st v b ∧ K (act st (dstE esc o) v b)) := by
    intro k o st K hk hne
    unfold opd
    simp only [hk]
    rw [if_neg (by simpa using hne)]
  have hi3 : kindO esc m oi ≠ 3 := by intro e; rw [e] at hkk; simp at hkk
  have hj3 : kindO esc m oj ≠ 3 := by
    intro e; rw [e] at hkk
    cases hq : kindO esc m oi with
    | zero => rw [hq] at hkk; simp at hkk
    | succ q =>
      cases q with
      | zero => rw [hq] at hkk; simp at hkk
      | succ q =>
        cases q with
        | zero => rw [hq] at hkk; simp at hkk
        | succ q => rw [hq] at hkk; simp at hkk
  rw [hform i oi _ _ hi hi3] at H
  rw [hform j oj _ _ hj hj3]
  -- a call that may write the heap, in a slot
  have hset : ∀ (st : St) (o : Oper) (r : V) (M' : Heap), kindO esc m o = 2 → (setD st o.dst r).withM M' = (act st (dstE esc o) r false).withM M' := by
    intro st o r M' hk; rw [dstE_of2 hk]; cases o.dst <;> rfl
  by_cases ci : (kindO esc m oi == 2 && m) = true <;> by_cases cj : (kindO esc m oj == 2 && m) = true
  · exfalso
    simp only [Bool.and_eq_true, beq_iff_eq] at ci cj
    obtain ⟨ci1, ci2⟩ := ci
    subst ci2
    rw [ci1, cj.1] at hkk
    simp at hkk
  · -- i may write, j is determined
    rw [if_pos ci] at H
    rw [if_neg cj]
    obtain ⟨S, hS, HK⟩ := H
    simp only [Bool.and_eq_true, beq_iff_eq] at ci
    have hj01 : (kindO esc m oj = 0 ∧ m = true ∧ blindB esc m ops j = true) ∨ kindO esc m oj = 1 := by
      obtain ⟨ci1, ci2⟩ := ci
      subst ci2
      rw [ci1] at hkk
      cases hq : kindO esc true oj with
      | zero => rw [hq] at hkk; simp at hkk; exact .inl ⟨rfl, rfl, hkk⟩
      | succ q =>
        cases q with
        | zero => exact .inr rfl
        | succ q => rw [hq] at hkk; revert hkk; split <;> simp_all
    have hdet : ∀ r M' v b, Det P n esc ops m j oj ((setD st oi.dst r).withM M') v b ↔ Det P n esc ops m j oj st v b := by
      intro r M' v b
      rw [hset _ _ _ _ ci.1, Det.heap hj01, Det.act a1 a2 b1]
    obtain ⟨r0, M0, hr0⟩ := hS.2.1
    have H0 := HK r0 M0 hr0
    rw [hform j oj _ _ hj hj3, if_neg cj] at H0
    obtain ⟨v, b, hv, _⟩ := H0
    rw [hdet] at hv
    refine ⟨v, b, hv, ?_⟩
    rw [hform i oi _ _ hi hi3, if_pos (by rw [ci.1]; simp [ci.2])]
    refine ⟨S, (May.act a3).2 hS, fun r M' hr => ?_⟩
    have H1 := HK r M' hr
    rw [hform j oj _ _ hj hj3, if_neg cj] at H1
    obtain ⟨v', b', hv', hK⟩ := H1
    rw [hdet] at hv'
    obtain ⟨rfl, rfl⟩ := Det.one (hj01.imp And.left id) hv hv'
    rw [hset _ _ _ _ ci.1] at hK
    rw [hset _ _ _ _ ci.1]
    have : act ((act st (dstE esc oi) r false).withM M') (dstE esc oj) v b = (act (act st (dstE esc oj) v b) (dstE esc oi) r false).withM M' := by
      rw [act_comm st v r b false a2']
      cases dstE esc oi <;> cases dstE esc oj <;> rfl
    rw [← this]; exact hK
  · -- i is determined, j may write
    rw [if_neg ci] at H
    rw [if_pos cj]
    obtain ⟨v, b, hv, H⟩ := H
    rw [hform j oj _ _ hj hj3, if_pos cj] at H
    obtain ⟨S, hS, HK⟩ := H
    simp only [Bool.and_eq_true, beq_iff_eq] at cj
    have hi01 : (kindO esc m oi = 0 ∧ m = true ∧ blindB esc m ops i = true) ∨ kindO esc m oi = 1 := by
      obtain ⟨cj1, cj2⟩ := cj
      subst cj2
      rw [cj1] at hkk
      cases hq : kindO esc true oi with
      | zero => rw [hq] at hkk; simp at hkk; exact .inl ⟨rfl, rfl, hkk⟩
      | succ q =>
        cases q with
        | zero => exact .inr rfl
        | succ q => rw [hq] at hkk; revert hkk; split <;> simp_all
    refine ⟨S, (May.act a1).1 hS, fun r M' hr => ?_⟩
    have hK := HK r M' hr
    rw [hform i oi _ _ hi hi3, if_neg ci]
    refine ⟨v, b, ?_, ?_⟩
    · rw [hset _ _ _ _ cj.1, Det.heap hi01, Det.act a3 a2' b2]; exact hv
    · rw [hset _ _ _ _ cj.1] at hK ⊢
      have : act ((act st (dstE esc oj) r false).withM M') (dstE esc oi) v b = (act (act st (dstE esc oi) v b) (dstE esc oj) r false).withM M' := by
        rw [act_comm st v r b false a2]
        cases dstE esc oi <;> cases dstE esc oj <;> rfl
      rw [this]; exact hK
  · -- both are determined
    rw [if_neg ci] at H
    rw [if_neg cj]
    obtain ⟨v, b, hv, H⟩ := H
    rw [hform j oj _ _ hj hj3, if_neg cj] at H
    obtain ⟨v', b', hv', hK⟩ := H
    rw [Det.act a1 a2 b1] at hv'
    refine ⟨v', b', hv', ?_⟩
    rw [hform i oi _ _ hi hi3, if_neg ci]
    refine ⟨v, b, (Det.act a3 a2' b2).2 hv, ?_⟩
    rw [← act_comm st v v' b b' a2]
    exact hK
end
end Go.Eng
