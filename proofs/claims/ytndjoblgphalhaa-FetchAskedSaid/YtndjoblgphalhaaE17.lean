/- The engine, part 17: rules for use. -/
import Derived.Test.YtndjoblgphalhaaE16
namespace Go.Eng
set_option linter.unusedSimpArgs false
set_option linter.unusedVariables false

/-- A region, done. -/
theorem oss_done {P : Program} {n : Nat} {esc : Nat → Bool} {K : St → Prop} {g : Prop} {st : St} (hg : g) (h : K st) : g ∧ oss P n esc [] K st := ⟨hg, h⟩

theorem oss_nil_eq {P : Program} {n : Nat} {esc : Nat → Bool} {K : St → Prop} {st : St} : oss P n esc [] K st = K st := rfl

section
variable {P : Program} {n : Nat} {esc : Nat → Bool} {Q Q' : Ex → St → Prop} {st st' : St} {K K' : St → Prop} {x y : SC}

theorem opO_mono {o : SO} (h : ∀ s, K s → K' s) (hk : opO P n esc o K st) : opO P n esc o K' st := by
  refine ⟨hk.1, ?_⟩
  have h2 := hk.2
  cases hg : o.g with
  | none =>
    simp only [hg] at h2 ⊢
    exact opw_mono h h2
  | some sw =>
    obtain ⟨s, want⟩ := sw
    simp only [hg] at h2 ⊢
    cases hc : guardB want (st.fr s) with
    | none => simp only [hc] at h2
    | some c =>
      simp only [hc] at h2 ⊢
      cases hA : isA o.op with
      | true =>
        simp only [hA] at h2 ⊢
        cases he : evalQ P st.M st.fr o.op with
        | none => simp only [he] at h2 ⊢; exact ⟨h2.1, h _ h2.2⟩
        | some gv => simp only [he] at h2 ⊢; exact ⟨h2.1, h _ h2.2⟩
      | false =>
        simp only [hA] at h2 ⊢
        rcases h2 with ⟨a, b⟩ | h2
        · exact .inl ⟨fun e => opw_mono h (a e), fun e => h _ (b e)⟩
        · exact .inr (pcall_mono h h2)

theorem oss_mono : ∀ {l : List SO} {st : St}, (∀ s, K s → K' s) → oss P n esc l K st → oss P n esc l K' st
  | [], _, h, hk => h _ hk
  | _ :: _, _, h, hk => opO_mono (fun s hs => oss_mono h hs) hk

theorem wps_mono : ∀ {c : SC} {Q Q' : Ex → St → Prop} {st : St}, (∀ e s, Q e s → Q' e s) → wps P n esc c Q st → wps P n esc c Q' st := by
  intro c
  induction c with
  | skip => exact fun h hk => h _ _ hk
  | exit id => exact fun h hk => h _ _ hk
  | ret => exact fun h hk => h _ _ hk
  | bad => exact fun h hk => hk.elim
  | reg l => exact fun h hk => oss_mono (h .normal) hk
  | draw ops l =>
    intro Q Q' st h hk
    obtain ⟨m, hB, hT⟩ := hk
    refine ⟨m, hB, ?_⟩
    have : ∀ (f k : Nat) (s : St), seqT (opd P n esc ops m) (Q .normal) f k s → seqT (opd P n esc ops m) (Q' .normal) f k s := by
      intro f
      induction f with
      | zero => exact fun k s hs => h _ _ hs
      | succ f ih => exact fun k s hs => opd_mono k _ _ s (fun s' hs' => ih (k + 1) s' hs') hs
    exact this _ _ _ hT
  | seq a b iha ihb => exact fun h hk => iha (fun e s hs => by cases e <;> first | exact ihb h hs | exact h _ _ hs) hk
  | cond c x y ihx ihy =>
    intro Q Q' st h hk
    simp only [wps] at hk ⊢
    split at hk <;> try (exact hk.elim)
    exact ⟨hk.1, fun e => ihx h (hk.2.1 e), fun e => ihy h (hk.2.2 e)⟩
  | block id c ih =>
    exact fun h hk => ih (fun e s hs => by
      cases e with
      | exit id' => simp only at hs ⊢; split <;> rename_i he <;> simp only [he, if_true, if_false] at hs <;> exact h _ _ hs
      | _ => exact h _ _ hs) hk
  | loop c ih =>
    rintro Q Q' st h ⟨I, μ, h0, hr⟩
    exact ⟨I, μ, h0, fun s hs => ih (fun e s' hs' => by cases e <;> first | exact hs' | exact h _ _ hs') (hr s hs)⟩

/-- A sequence, with what holds between. -/
theorem wps_seq_cut (J : St → Prop) (hx : wps P n esc x (fun e s => match e with | .normal => J s | e => Q e s) st) (hy : ∀ s, J s → wps P n esc y Q s) : wps P n esc (.seq x y) Q st := by
  show wps P n esc x _ st
  refine wps_mono (fun e s hs => ?_) hx
  cases e <;> first | exact hy s hs | exact hs

theorem wps_cond {c : Operand} {g : Prop} {b : Bool} (h : opv st.fr c = some (g, .bool b)) (hg : g) (hx : b = true → wps P n esc x Q st) (hy : b = false → wps P n esc y Q st) : wps P n esc (.cond c x y) Q st := by
  simp only [wps, h]; exact ⟨hg, hx, hy⟩

theorem wps_loop {c : SC} (I : St → Prop) (μ : St → Nat) (h0 : I st) (hr : ∀ fr M gen, I ⟨fr, M, gen⟩ → wps P n esc c (fun e st' => match e with
      | .normal => I st' ∧ μ st' < μ ⟨fr, M, gen⟩
      | e => Q e st') ⟨fr, M, gen⟩) : wps P n esc (.loop c) Q st := ⟨I, μ, h0, fun st hs => hr st.fr st.M st.gen hs⟩

/-- A loop that counts up. -/
theorem wps_count {c : SC} (slot N : Nat) (J : Nat → St → Prop) (h0 : ∃ k : Nat, k ≤ N ∧ st.fr slot = .int .i64 k ∧ J k st)
    (hr : ∀ (k : Nat) fr M gen, k ≤ N → fr slot = .int .i64 k → J k ⟨fr, M, gen⟩ → wps P n esc c (fun e st' => match e with
      | .normal => k < N ∧ st'.fr slot = .int .i64 (k + 1) ∧ J (k + 1) st'
      | e => Q e st') ⟨fr, M, gen⟩) : wps P n esc (.loop c) Q st := by
  refine wps_loop (fun st => ∃ k : Nat, k ≤ N ∧ st.fr slot = .int .i64 k ∧ J k st) (fun st => match st.fr slot with | .int _ k => N - k.toNat | _ => 0) h0 ?_
  rintro fr M gen ⟨k, hk, hs, hj⟩
  refine wps_mono (fun e s h => ?_) (hr k fr M gen hk hs hj)
  cases e with
  | normal =>
    obtain ⟨h1, h2, h3⟩ := h
    refine ⟨⟨k + 1, h1, by rw [h2]; rfl, h3⟩, ?_⟩
    simp only at hs
    simp only [h2, hs]
    omega
  | _ => exact h

theorem wps_block {id : Nat} {c : SC} (h : wps P n esc c (fun e st => match e with
      | .exit id' => if id' = id then Q .normal st else Q (.exit id') st
      | e => Q e st) st) : wps P n esc (.block id c) Q st := h
end

/-! ### Nothing is too long -/
mutual
def lenOk : V → Prop
  | .str s => s.length ≤ maxLen
  | .agg cs => lensOk cs
  | .lst es => es.length ≤ maxLen ∧ lenssOk es
  | _ => True
def lensOk : List V → Prop
  | [] => True
  | v :: vs => lenOk v ∧ lensOk vs
def lenssOk : List (List V) → Prop
  | [] => True
  | e :: es => lensOk e ∧ lenssOk es
end

mutual
theorem R.len {E : Env} {w : World} : ∀ (v : V) (x : Value), R E w v x → lenOk v
  | .str s, x, h => by simp only [R] at h; exact h.2
  | .agg cs, x, h => by simp only [R] at h; obtain ⟨xs, _, hl⟩ := h; exact RL.len cs _ hl
  | .lst es, x, h => by
    simp only [R] at h
    obtain ⟨a, cap, _, h1, h2, h3⟩ := h
    refine ⟨Nat.le_trans h1 h2, ?_⟩
    rcases h3 with rfl | ⟨b, off, sz, _, _, _, h4⟩
    · trivial
    · exact RE.len es _ _ _ h4
  | .any, _, _ => trivial
  | .bool _, _, _ => trivial
  | .int _ _, _, _ => trivial
  | .tup _, _, _ => trivial
  | .nilp, _, _ => trivial
  | .ptr _ _, _, _ => trivial
  | .eref _ _, _, _ => trivial
  | .lref _ _ _, _, _ => trivial
  | .box _ _, _, _ => trivial
  | .itr _ _ _, _, _ => trivial
  | .nilm, _, _ => trivial
  | .map _, _, _ => trivial
  | .fn _ _ _, _, _ => trivial
  | .nilf, _, _ => trivial
  | .iface _ _, _, _ => trivial
  | .nili, _, _ => trivial
  | .when _ _, _, _ => trivial
theorem RL.len {E : Env} {w : World} : ∀ (vs : List V) (xs : List Value), RL E w vs xs → lensOk vs
  | [], _, _ => trivial
  | v :: vs, xs, h => by simp only [RL] at h; obtain ⟨y, ys, _, h1, h2⟩ := h; exact ⟨R.len v y h1, RL.len vs ys h2⟩
theorem RM.len {E : Env} {w : World} : ∀ (vs : List V) (b off : Nat), RM E w vs b off → lensOk vs
  | [], _, _, _ => trivial
  | v :: vs, b, off, h => by simp only [RM] at h; obtain ⟨⟨y, _, h1⟩, h2⟩ := h; exact ⟨R.len v y h1, RM.len vs b _ h2⟩
theorem RE.len {E : Env} {w : World} : ∀ (es : List (List V)) (b off sz : Nat), RE E w es b off sz → lenssOk es
  | [], _, _, _, _ => trivial
  | e :: es, b, off, sz, h => by simp only [RE] at h; exact ⟨RM.len e b off h.2.1, RE.len es b _ sz h.2.2⟩
end

theorem lenssOk.at {es : List (List V)} (h : lenssOk es) : ∀ k, lensOk (es.getD k []) := by
  induction es with
  | nil => intro k; simp [lensOk]
  | cons e es ih =>
    intro k
    cases k with
    | zero => exact h.1
    | succ k => exact ih h.2 k

/-- A contract, where nothing that was handed over is too long. -/
theorem Spec.strip' {P : Program} {f : FuncId} {n : Nat} {rs : List ResultVar} {args : List V} {M : Heap} {Post : V → Heap → Prop} {sc : SC} (esc : Nat → Bool) (hf : FnOk P f n rs sc) (ha : args.length ≤ n)
    (h : lensOk args → wps P n esc sc (endQ P rs Post) ⟨fun t => args.getD t (.tup []), M, fun _ => 0⟩) : Spec P f args M Post := by
  have hf' := hf
  obtain ⟨hmix, fn, h1, h2, h3, h4, h5, h6⟩ := hf'
  refine ⟨⟨fn, h1, h2, ?_⟩, fun E w xs k1 k2 k3 k4 => (Spec.strip esc hf ha (h (RL.len _ _ k3))).2 E w xs k1 k2 k3 k4⟩
  cases hb : fn.body with
  | none => rw [hb] at h5; cases h5
  | some c => rfl
end Go.Eng
