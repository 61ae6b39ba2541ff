/- The engine, part 14: code, functions, and that the model does what is said of them. -/
import Derived.Test.YtndjoblgphalhaaE13
namespace Go.Eng
set_option linter.unusedSimpArgs false
set_option linter.unusedVariables false

section
variable {P : Program} {E0 E : Env} {w0 w : World} {n : Nat} {st : St} {a : Act} {esc : Nat → Bool} {K K' : St → Prop} {Q : Exit → Act → World → Prop} {ops : Array Oper} {m : Bool}

theorem newVarW_mono {dst : Option Nat} {cs : List V} (hK : ∀ s, K s → K' s) (h : newVarW esc st dst cs K) : newVarW esc st dst cs K' := by
  unfold newVarW at h ⊢
  split
  · exact h
  · simp only at h
    split
    · rename_i he; rw [if_pos he] at h; exact fun o ho => hK _ (h o ho)
    · rename_i he; rw [if_neg he] at h; exact hK _ h

theorem opw_mono {o : Oper} (hK : ∀ s, K s → K' s) (h : opw P esc o K st) : opw P esc o K' st := by
  unfold opw at h ⊢
  split at h
  · split at h <;> try (exact h.elim)
    exact ⟨h.1, h.2.1, newVarW_mono hK h.2.2⟩
  · split at h <;> try (exact h.elim)
    exact newVarW_mono hK h
  · split at h <;> try (exact h.elim)
    split at h <;> try (exact h.elim)
    obtain ⟨h1, h2, h3, h4, h5, h6, h7⟩ := h
    exact ⟨h1, h2, h3, h4, h5, h6, hK _ h7⟩
  · split at h <;> try (exact h.elim)
    split at h <;> try (exact h.elim)
    split at h <;> try (exact h.elim)
    obtain ⟨h1, h2, h3, h4, h5, h6⟩ := h
    exact ⟨h1, h2, h3, h4, h5, hK _ h6⟩
  · split at h <;> try (exact h.elim)
    exact fun ob ho => hK _ (h ob ho)
  · split at h <;> try (exact h.elim)
    exact ⟨h.1, hK _ h.2⟩
  · split at h <;> try (exact h.elim)
    exact ⟨fun hh => hK _ (h.1 hh), fun hh => hK _ (h.2 hh)⟩
  · split at h <;> try (exact h.elim)
    obtain ⟨h1, Post, h2, h3⟩ := h
    exact ⟨h1, Post, h2, fun r M' hp => hK _ (h3 r M' hp)⟩
  · split at h <;> try (exact h.elim)
    exact ⟨h.1, hK _ h.2⟩

theorem pcall_mono {o : Oper} {c : Bool} {wr : V → V} (hK : ∀ s, K s → K' s) (h : pcall P c wr o K st) : pcall P c wr o K' st := by
  unfold pcall at h ⊢
  split
  · simp only [*] at h
    split at h <;> try (exact h.elim)
    obtain ⟨r, h1, h2⟩ := h
    exact ⟨r, h1, hK _ h2⟩
  · rename_i hne
    split at h
    · rename_i cl hcl; exact absurd hcl (hne cl)
    · exact h

theorem opg_mono {o : Oper} (hK : ∀ s, K s → K' s) (h : opg P n esc ops o K st) : opg P n esc ops o K' st := by
  unfold opg at h ⊢
  refine ⟨h.1, ?_⟩
  have h2 := h.2
  cases hg : o.guard with
  | none => simp only [hg] at h2 ⊢; exact opw_mono hK h2
  | some gd =>
    simp only [hg] at h2 ⊢
    cases hc : guardOf ops st.fr gd with
    | none => simp only [hc] at h2
    | some c =>
      simp only [hc] at h2 ⊢
      cases ha : isA o.op with
      | true =>
        simp only [ha] at h2 ⊢
        split
        · rename_i need v he; simp only [he] at h2; exact ⟨h2.1, hK _ h2.2⟩
        · rename_i he; simp only [he] at h2; exact ⟨h2.1, hK _ h2.2⟩
      | false =>
        simp only [ha] at h2 ⊢
        rcases h2 with h2 | h2
        · exact .inl ⟨fun e => opw_mono hK (h2.1 e), fun e => hK _ (h2.2 e)⟩
        · exact .inr (pcall_mono hK h2)

theorem opd_mono (i : Nat) (K K' : St → Prop) (st : St) (hK : ∀ s, K s → K' s) (h : opd P n esc ops m i K st) : opd P n esc ops m i K' st := by
  unfold opd at h ⊢
  split
  · simp only [*] at h; exact hK _ h
  · rename_i o ho
    simp only [ho] at h
    split
    · rename_i hk; rw [if_pos hk] at h; exact opg_mono hK h
    · rename_i hk; rw [if_neg hk] at h
      split
      · rename_i hk; rw [if_pos hk] at h; obtain ⟨S, h1, h2⟩ := h; exact ⟨S, h1, fun r M' hr => hK _ (h2 r M' hr)⟩
      · rename_i hk; rw [if_neg hk] at h; obtain ⟨v, b, h1, h2⟩ := h; exact ⟨v, b, h1, hK _ h2⟩

theorem kind3 {o : Oper} (h : kindO esc m o = 3) : (∃ t x y, o.op = .store t x y) ∨ ∃ t x y z, o.op = .mapUpdate t x y z := by
  unfold kindO at h
  split at h
  · split at h
    · split at h <;> cases h
    · cases h
  · split at h
    · split at h <;> cases h
    · cases h
  · cases h
  · rename_i t x y hop; exact .inl ⟨t, x, y, hop⟩
  · rename_i t x y z hop; exact .inr ⟨t, x, y, z, hop⟩
  · split at h <;> cases h

theorem opd_real (i : Nat) (st : St) : ¬ opd P n esc ops m i (fun _ => False) st := by
  intro h
  unfold opd at h
  split at h
  · exact h
  · rename_i o ho
    split at h
    · rename_i hk
      have hk : kindO esc m o = 3 := by simpa using hk
      have hw : ¬ opw P esc o (fun _ => False) st := by
        intro hw
        rcases kind3 hk with ⟨t, x, y, hop⟩ | ⟨t, x, y, z, hop⟩
        · unfold opw at hw; simp only [hop] at hw
          split at hw <;> try (exact hw.elim)
          split at hw <;> try (exact hw.elim)
          exact hw.2.2.2.2.2.2
        · unfold opw at hw; simp only [hop] at hw
          split at hw <;> try (exact hw.elim)
          split at hw <;> try (exact hw.elim)
          split at hw <;> try (exact hw.elim)
          exact hw.2.2.2.2.2
      have hA : isA o.op = false := by rcases kind3 hk with ⟨t, x, y, hop⟩ | ⟨t, x, y, z, hop⟩ <;> rw [hop] <;> rfl
      have hp : ∀ c wr, ¬ pcall P c wr o (fun _ => False) st := by
        intro c wr hp
        rcases kind3 hk with ⟨t, x, y, hop⟩ | ⟨t, x, y, z, hop⟩ <;> (unfold pcall at hp; simp only [hop] at hp)
      have h2 := h.2
      cases hg : o.guard with
      | none => simp only [hg] at h2; exact hw h2
      | some gd =>
        simp only [hg] at h2
        split at h2 <;> try (exact h2.elim)
        rename_i c hc
        simp only [hA] at h2
        rcases h2 with h2 | h2
        · cases c with
          | true => exact hw (h2.1 rfl)
          | false => exact h2.2 rfl
        · exact hp _ _ h2
    · split at h
      · obtain ⟨S, h1, h2⟩ := h
        obtain ⟨r, M', hr⟩ := h1.2.1
        exact h2 r M' hr
      · obtain ⟨v, b, _, h2⟩ := h; exact h2

theorem act_setD (st : St) (dst : Option Nat) (v : V) : act st dst v false = setD st dst v := by cases dst <;> rfl
theorem withM_setD (st : St) (dst : Option Nat) (v : V) (M' : Heap) : (setD st dst v).withM M' = setD { st with M := M' } dst v := by cases dst <;> rfl

theorem guardC_sound {o : Oper} {c : Bool} (hf : FR E w st.fr a.tmps) (h : guardC ops st.fr o.guard = some c) : Region.wanted o (yielded ops a.tmps) = c := by
  cases hg : o.guard with
  | none => simp only [guardC, hg] at h; cases h; simp [Region.wanted, hg]
  | some gd => rw [hg] at h; exact guardOf_sound hg hf h

theorem dstE_op {o : Oper} (h : ∀ t a x, o.op ≠ .store t a x) : dstE esc o = o.dst := by
  unfold dstE
  cases hd : o.dst with
  | some d => rfl
  | none =>
    simp only
    cases ho : ownSt esc o with
    | none => rfl
    | some s =>
      exfalso
      unfold ownSt at ho
      split at ho
      · rename_i h1 _ _; exact h _ _ _ h1
      · cases ho

theorem dstE_of0 {o : Oper} (hk : kindO esc m o = 0) : dstE esc o = o.dst := by
  refine dstE_op fun t a x hop => ?_
  unfold kindO at hk
  simp only [hop] at hk
  split at hk
  · cases hk
  · split at hk <;> cases hk

theorem dstE_some {o : Oper} {d : Nat} (h : o.dst = some d) : dstE esc o = some d := by unfold dstE; rw [h]

theorem opd_sound {i : Nat} (h : RSt E0 w0 n E w st a) (hk : opd P n esc ops m i K st) : wpOp P ops Q i (Nxt E0 w0 n K) a w := by
  unfold opd at hk
  split at hk
  · rename_i hi; unfold wpOp; simp only [hi]; exact ⟨E, st, h, hk⟩
  rename_i o hi
  split at hk
  · exact opg_sound hi h hk
  rename_i hk3
  unfold wpOp
  simp only [hi]
  split at hk
  · -- a call that may write the heap
    obtain ⟨S, hS, hK⟩ := hk
    obtain ⟨hd, _, hS⟩ := hS
    have hd := dstLt_spec hd
    split at hS
    case h_3 => exact hS.elim
    case h_2 =>
      -- a store into the heap
      rename_i t ad x hop
      obtain ⟨hgn, hS⟩ := hS
      split at hS <;> try (exact hS.elim)
      rename_i T g ob off g' v hT ha hx
      split at hS <;> try (exact hS.elim)
      rename_i cs hm
      obtain ⟨k1, k2, k3, k4, k5, k6, k7⟩ := hS
      have hw : Region.wanted o (yielded ops a.tmps) = true := by simp [Region.wanted, hgn]
      rw [if_pos hw]
      left
      refine opw_sound (esc := esc) h hd ?_
      unfold opw
      simp only [hop, hT, ha, hx, storeTo, hm]
      have := hK _ _ ((k7 _ _).2 ⟨rfl, rfl⟩)
      rw [withM_setD] at this
      exact ⟨k1, k2, k3, k4, k5, k6, this⟩
    rename_i cl hop
    split at hS <;> try (exact hS.elim)
    rename_i c hc
    rw [guardC_sound h.fr hc]
    cases c with
    | true =>
      rw [if_pos rfl]
      left
      have h1 := hS.1 rfl
      split at h1 <;> try (exact h1.elim)
      rename_i g id vs hcv
      obtain ⟨xs, hrun, hl⟩ := callV_sound (P := P) (w := w) (type := o.type) h.fr hcv h1.1
      unfold Oper.wp
      have : (execOp a.eval o).run P w = (callFunc id xs).run P w := by
        obtain ⟨dst, op, type, pos, after, guard⟩ := o
        simp only at hop; subst hop
        simp only [execOp]; exact hrun
      rw [this]
      exact call_sound (c := cl) h hd h1.2 hl (fun r M' hr => by rw [← withM_setD]; exact hK r M' hr)
    | false =>
      rw [if_neg (by simp)]
      have := hK (.tup []) st.M (((hS.2 rfl) _ _).2 ⟨rfl, rfl⟩)
      rw [withM_setD] at this
      exact ⟨E, _, h.put hd RS_tupnil, this⟩
  · obtain ⟨v, b, hv, hK⟩ := hk
    obtain ⟨hd, hv⟩ := hv
    have hd' := hd
    have hd := dstLt_spec hd
    split at hv
    · -- it leaves memory alone
      rename_i hk0
      rw [dstE_of0 hk0] at hK
      split at hv <;> try (exact hv.elim)
      · rename_i c need u hc he
        obtain ⟨k1, _, rfl, rfl⟩ := hv
        rw [act_setD] at hK
        have he' : evalQ P st.M st.fr o.op = some (need, u) := by
          split at he
          · exact evalQ_blind he
          · exact he
        rw [guardC_sound h.fr hc]
        cases c with
        | true =>
          rw [if_pos rfl]
          left
          obtain ⟨x, hx, hr⟩ := evalQ_sound (o := o) he' (k1 rfl) h.fr h.heap
          unfold Oper.wp
          rw [hx, Oper.upon_value]
          refine ⟨E, _, h.put hd (fun t => ?_), hK⟩
          cases hg : o.guard with
          | none => exact RS.of_RO hr
          | some gd => exact RS.whenT rfl hr
        | false =>
          rw [if_neg (by simp)]
          refine ⟨E, _, h.put hd (fun t => ?_), hK⟩
          cases hg : o.guard with
          | none => simp [guardC, hg] at hc
          | some gd => exact RS.whenF rfl
      · rename_i c hc he
        obtain ⟨rfl, _, _, rfl, rfl⟩ := hv
        rw [act_setD] at hK
        rw [guardC_sound h.fr hc, if_neg (by simp)]
        exact ⟨E, _, h.put hd RS_tupnil, hK⟩
    · -- a new variable
      rename_i hk1
      have hgn : o.guard = none ∧ ∀ d, o.dst = some d → esc d = false := by
        unfold kindO at hk1
        split at hk1
        · split at hk1
          · rename_i d hdd hg; split at hk1
            · cases hk1
            · rename_i he; exact ⟨hg, fun d' hd' => by rw [hdd] at hd'; cases hd'; simpa using he⟩
          · cases hk1
        · split at hk1
          · rename_i d hdd hg; split at hk1
            · cases hk1
            · rename_i he; exact ⟨hg, fun d' hd' => by rw [hdd] at hd'; cases hd'; simpa using he⟩
          · cases hk1
        · cases hk1
        · split at hk1
          · rename_i hop s hs
            have hs0 := hs
            unfold ownSt at hs
            split at hs
            · rename_i hd0 hg0; exact ⟨hg0, fun d hd' => by rw [hd0] at hd'; cases hd'⟩
            · cases hs
          · split at hk1 <;> cases hk1
        · cases hk1
        · split at hk1 <;> cases hk1
      have hw : Region.wanted o (yielded ops a.tmps) = true := by simp [Region.wanted, hgn.1]
      rw [if_pos hw]
      left
      refine opw_sound (esc := esc) h hd ?_
      split at hv <;> try (exact hv.elim)
      · rename_i t x d hop hdst
        split at hv <;> try (exact hv.elim)
        rename_i g u ho
        obtain ⟨k1, k2, rfl, rfl⟩ := hv
        unfold opw
        simp only [hop, ho, newVarW, hdst, hgn.2 d hdst]
        rw [dstE_some hdst] at hK
        exact ⟨k1, k2, by simpa [act, hdst] using hK⟩
      · rename_i t d hop hdst
        split at hv <;> try (exact hv.elim)
        rename_i z hz
        obtain ⟨rfl, rfl⟩ := hv
        unfold opw
        simp only [hop, hz, newVarW, hdst, hgn.2 d hdst]
        rw [dstE_some hdst] at hK
        simpa [act, hdst] using hK
      · rename_i t s x hop hdst
        split at hv <;> try (exact hv.elim)
        rename_i T g u g' cs hT hx hs
        obtain ⟨k1, k2, k3, k4, k5, rfl, rfl⟩ := hv
        have hds : dstE esc o = some s := by
          unfold dstE
          rw [hdst]
          unfold kindO at hk1
          simp only [hop] at hk1
          split at hk1
          · rename_i s' hs'
            have h1 := hs'
            unfold ownSt at h1
            simp only [hop, hdst, hgn.1] at h1
            split at h1
            · cases h1; exact hs'
            · cases h1
          · split at hk1 <;> cases hk1
        rw [hds] at hK
        unfold opw
        have ho : opv st.fr (.tmp s) = some (True, .lref s g' 0) := by simp [opv, hs, slotV]
        simp only [hop, hT, ho, hx, storeTo, hs]
        refine ⟨trivial, k1, ⟨trivial, by omega⟩, k3, k4, k5, ?_⟩
        rw [hdst]
        simpa [act, setD] using hK
    · -- a call that leaves the heap alone
      split at hv <;> try (exact hv.elim)
      rename_i c cl hc hop
      split at hv <;> try (exact hv.elim)
      rename_i g id vs hcv
      obtain ⟨r, k1, rfl, rfl⟩ := hv
      rw [act_setD, dstE_op (fun t a x e => by rw [hop] at e; cases e)] at hK
      rw [guardC_sound h.fr hc]
      cases c with
      | true =>
        rw [if_pos rfl]
        left
        refine pcall_sound (c := true) (wr := wrapG o.guard true) h hd rfl (fun E' w' t r x hr => ?_) ?_
        · cases hg : o.guard with
          | none => exact RS.of_RO hr
          | some gd => exact RS.whenT rfl hr
        · unfold pcall
          simp only [hop, hcv]
          exact ⟨r, fun _ => k1 rfl, hK⟩
      | false =>
        rw [if_neg (by simp)]
        refine ⟨E, _, h.put hd (fun t => ?_), hK⟩
        cases hg : o.guard with
        | none => simp [guardC, hg] at hc
        | some gd => exact RS.whenF rfl
    · exact hv.elim
end

/-- A region that draws its order. -/
def wpDraw (P : Program) (n : Nat) (esc : Nat → Bool) (ops : Array Oper) (m : Bool) (K : St → Prop) (st : St) : Prop :=
  lexA ops (indB esc ops m) ops.size 0 (Array.replicate ops.size false) = true ∧ seqT (opd P n esc ops m) K ops.size 0 st

/-- How a piece of code is left. -/
inductive Ex where
  | normal
  | exit (id : Nat)
  | ret

/-- THE TRANSFORMER OF PREDICATES. -/
def wpc (P : Program) (n : Nat) (esc : Nat → Bool) : Code → (Ex → St → Prop) → St → Prop
  | .skip, Q, st => Q .normal st
  | .label _, Q, st => Q .normal st
  | .region _ ops draw, Q, st =>
    match draw with
    | true => ∃ m, wpDraw P n esc ops m (Q .normal) st
    | false => opsg P n esc ops ops.toList (Q .normal) st
  | .seq a b, Q, st => wpc P n esc a (fun e st => match e with
      | .normal => wpc P n esc b Q st
      | e => Q e st) st
  | .cond c x y, Q, st =>
    match opv st.fr c with
    | some (g, .bool b) => g ∧ (b = true → wpc P n esc x Q st) ∧ (b = false → wpc P n esc y Q st)
    | _ => False
  | .block id c, Q, st => wpc P n esc c (fun e st => match e with
      | .exit id' => if id' = id then Q .normal st else Q (.exit id') st
      | e => Q e st) st
  | .loop c, Q, st => ∃ (I : St → Prop) (μ : St → Nat), I st ∧ ∀ st, I st → wpc P n esc c (fun e st' => match e with
      | .normal => I st' ∧ μ st' < μ st
      | e => Q e st') st
  | .exit id, Q, st => Q (.exit id) st
  | .ret, Q, st => Q .ret st
  | _, _, _ => False

def liftQ (E0 : Env) (w0 : World) (n : Nat) (Q : Ex → St → Prop) : Exit → Act → World → Prop
  | .normal, a, w => Nxt E0 w0 n (Q .normal) a w
  | .exit id, a, w => Nxt E0 w0 n (Q (.exit id)) a w
  | .ret, a, w => Nxt E0 w0 n (Q .ret) a w
  | _, _, _ => False

theorem wp_loop_ghost {P : Program} {c : Code} {Q : Exit → Act → World → Prop} {S : Type} (I : S → Act → World → Prop) (μ : S → Nat) {s : S} {a : Act} {w : World} (h₀ : I s a w)
    (round : ∀ s a w, I s a w → c.wp P (Exit.then (fun a' w' => ∃ s', I s' a' w' ∧ μ s' < μ s) Q) a w) : (Code.loop c).wp P Q a w := by
  intro b k cs
  have key : ∀ n s a w, μ s = n → I s a w →
      ∃ e a' w', Q e a' w' ∧ Arrives P (lone (b.at a (.code c :: .inLoop c :: k)) cs w) b k cs e a' w' := by
    intro n
    induction n using Nat.strongRecOn with
    | _ n ih =>
      intro s a w hn hI
      obtain ⟨e, a₁, w₁, hq, harr⟩ := round s a w hI b (.inLoop c :: k) cs
      cases e with
      | normal =>
        obtain ⟨s', hI₁, hlt⟩ := hq
        obtain ⟨e₂, a₂, w₂, hq₂, harr₂⟩ := ih (μ s') (hn ▸ hlt) s' a₁ w₁ rfl hI₁
        exact ⟨e₂, a₂, w₂, hq₂, .of_steps (Steps.trans harr (.one step_inLoop)) harr₂⟩
      | exit id => exact ⟨_, a₁, w₁, hq, .pass (x := .inLoop c) rfl (fun _ _ => .inl (by simp)) harr⟩
      | goto l => exact ⟨_, a₁, w₁, hq, .pass (x := .inLoop c) rfl (fun _ _ => .inl (by simp)) harr⟩
      | ret => exact ⟨_, a₁, w₁, hq, .pass (x := .inLoop c) rfl (fun _ _ => .inl (by simp)) harr⟩
      | panic ch => exact ⟨_, a₁, w₁, hq, .pass (x := .inLoop c) rfl (fun _ _ => .inl (by simp)) harr⟩
      | outgrown => exact ⟨_, a₁, w₁, hq, .pass (x := .inLoop c) rfl (fun _ _ => .inl (by simp)) harr⟩
  obtain ⟨e, a', w', hq, harr⟩ := key _ s a w rfl h₀
  exact ⟨e, a', w', hq, .of_steps (.one step_loop) harr⟩

theorem wpc_sound {P : Program} {E0 : Env} {w0 : World} {n : Nat} {esc : Nat → Bool} (hmix : P.follows .mixedOrders = true) : ∀ (c : Code) (Q : Ex → St → Prop) (E : Env) (w : World) (st : St) (a : Act), RSt E0 w0 n E w st a → wpc P n esc c Q st → c.wp P (liftQ E0 w0 n Q) a w
  | .skip, Q, E, w, st, a, h, hk => wp_skip ⟨E, st, h, hk⟩
  | .label _, Q, E, w, st, a, h, hk => wp_label ⟨E, st, h, hk⟩
  | .region id ops draw, Q, E, w, st, a, h, hk => by
    cases draw with
    | false =>
      refine wp_region ?_
      have := opsg_sound (P := P) (Q := liftQ E0 w0 n Q) (K := Q .normal) (ops := ops) (fun a w hn => hn) ops.toList 0 E w st a (by simp) h hk
      simpa using this
    | true =>
      obtain ⟨m, hB, hT⟩ := hk
      refine wp_region_any hmix ?_
      have hd : RSt E0 w0 n E { w with drawn := w.drawn + 1 } st a := by
        have hg : Grow E w E { w with drawn := w.drawn + 1 } := ⟨⟨Nat.le_refl _, fun _ _ h => h, fun _ _ h => h, fun _ _ _ => rfl⟩, fun _ _ _ h => h, fun _ _ => rfl⟩
        exact ⟨⟨h.inv.size, h.inv.obm, h.inv.obn, h.inv.bxn, h.inv.ex, h.inv.exlt, h.inv.keep, h.inv.os, h.inv.tape, h.inv.output, h.inv.oblt, h.inv.bxlt, h.inv.obinj, h.inv.bxinj, h.inv.obbx, h.inv.fin⟩, h.fr.grow hg, h.size, h.heap.grow hg, h.defers, h.gens⟩
      exact wpAny_of_anyA (T := opd P n esc ops m) (K := Q .normal) (fun i K E w st a h hk => opd_sound h hk) (fun a w hn => hn) _ _ E _ st a hd
        (anyA_lex (fun i K K' s hK h => opd_mono i K K' s hK h) (fun i s => opd_real i s) (fun i j hij => opd_swap hij) _ _ _ _ hB hT)
  | .seq x y, Q, E, w, st, a, h, hk => by
    refine wp_seq (wp_mono (wpc_sound hmix x _ E w st a h hk) fun e a' w' hq => ?_)
    cases e with
    | normal => obtain ⟨E', st', h', hk'⟩ := hq; exact wpc_sound hmix y Q E' w' st' a' h' hk'
    | exit id => exact hq
    | ret => exact hq
    | goto l => exact hq
    | panic ch => exact hq
    | outgrown => exact hq
  | .cond c x y, Q, E, w, st, a, h, hk => by
    simp only [wpc] at hk
    split at hk <;> try (exact hk.elim)
    rename_i g b hc
    have hv := opv_sound hc hk.1 h.fr
    simp only [RO, R] at hv
    cases b with
    | true => exact wp_cond_true hv (wpc_sound hmix x Q E w st a h (hk.2.1 rfl))
    | false => exact wp_cond_false hv (wpc_sound hmix y Q E w st a h (hk.2.2 rfl))
  | .block id c, Q, E, w, st, a, h, hk => by
    refine wp_block (wp_mono (wpc_sound hmix c _ E w st a h hk) fun e a' w' hq => ?_)
    cases e with
    | normal => exact hq
    | exit id' =>
      simp only [Exit.inBlock]
      obtain ⟨E', st', h', hk'⟩ := hq
      split
      · rename_i e; simp only [e, if_true] at hk'; exact ⟨E', st', h', hk'⟩
      · rename_i e; simp only [e, if_false] at hk'; exact ⟨E', st', h', hk'⟩
    | ret => exact hq
    | goto l => exact hq
    | panic ch => exact hq
    | outgrown => exact hq
  | .loop c, Q, E, w, st, a, h, hk => by
    obtain ⟨I, μ, h0, hr⟩ := hk
    refine wp_loop_ghost (S := St) (fun st a w => ∃ E, RSt E0 w0 n E w st a ∧ I st) μ (s := st) ⟨E, h, h0⟩ fun st a w ⟨E, h, hI⟩ => ?_
    refine wp_mono (wpc_sound hmix c _ E w st a h (hr st hI)) fun e a' w' hq => ?_
    cases e with
    | normal => obtain ⟨E', st', h', hI', hlt⟩ := hq; exact ⟨st', ⟨E', h', hI'⟩, hlt⟩
    | exit id => exact hq
    | ret => exact hq
    | goto l => exact hq
    | panic ch => exact hq
    | outgrown => exact hq
  | .exit id, Q, E, w, st, a, h, hk => wp_exit ⟨E, st, h, hk⟩
  | .ret, Q, E, w, st, a, h, hk => wp_ret ⟨E, st, h, hk⟩
  | .rangeFunc _ _ _ _, Q, E, w, st, a, h, hk => hk.elim
  | .scope _, Q, E, w, st, a, h, hk => hk.elim
  | .goto _, Q, E, w, st, a, h, hk => hk.elim
  | .refuse _, Q, E, w, st, a, h, hk => hk.elim
end Go.Eng
