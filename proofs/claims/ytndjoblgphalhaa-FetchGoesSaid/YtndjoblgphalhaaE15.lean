/- The engine, part 15: functions. -/
import Derived.Test.YtndjoblgphalhaaE14
namespace Go.Eng
set_option linter.unusedSimpArgs false
set_option linter.unusedVariables false

/-- What a result variable holds. -/
def resV1 (P : Program) (st : St) : ResultVar → Option (Prop × V)
  | .tmp t => opv st.fr (.tmp t)
  | .cell p t =>
    match ti P t, opv st.fr (.tmp p) with
    | some T, some (g, v) => match loadA st.M st.fr T v with
      | some (g', u) => some (g ∧ g', u)
      | none => none
    | _, _ => none

def resVs (P : Program) (st : St) : List ResultVar → Option (Prop × List V)
  | [] => some (True, [])
  | r :: rs =>
    match resV1 P st r, resVs P st rs with
    | some (g, v), some (g', vs) => some (g ∧ v.tag < 22 ∧ g', v :: vs)
    | _, _ => none

def resV (P : Program) (st : St) (rs : List ResultVar) : Option (Prop × V) :=
  match resVs P st rs with
  | some (g, [v]) => some (g, v)
  | some (g, vs) => some (g, .tup vs)
  | none => none

def resRun (tmps : Array Value) : ResultVar → Sem Value
  | .tmp t => pure (tmps.getD t undef)
  | .cell p t => do loadVar t (← asAddr (tmps.getD p undef))

theorem results_run {P : Program} {w : World} {fn : Func} {tmps : Array Value} {xs : Array Value} (h : (fn.results.mapM (resRun tmps)).run P w = .ok xs w) :
    (results fn tmps).run P w = .ok (if xs.size = 1 then xs.getD 0 undef else .tuple xs) w := by
  have e : results fn tmps = (do
      let vs ← fn.results.mapM (resRun tmps)
      pure (if h : vs.size = 1 then vs[0] else .tuple vs)) := by
    unfold results
    congr 1
  rw [e, Sem.run_bind, h]
  simp only [Result.andThen_ok, Sem.run_pure]
  split
  · rename_i h1; simp [Array.getD, h1]
  · rfl

def initSt (args : List V) (M : Heap) : St := { fr := fun t => args.getD t (.tup []), M := M, gen := fun _ => 0 }

/-- What is asked at a function's end. -/
def endQ (P : Program) (rs : List ResultVar) (Post : V → Heap → Prop) : Ex → St → Prop
  | .exit _, _ => False
  | _, st => match resV P st rs with
    | some (g, v) => g ∧ Post v st.M
    | none => False

section
variable {P : Program} {E0 E : Env} {w0 w : World} {n : Nat} {st : St} {a : Act}

theorem resV1_sound {r : ResultVar} {c : Prop} {v : V} (h : resV1 P st r = some (c, v)) (hc : c) (hs : RSt E0 w0 n E w st a) :
    ∃ x, (resRun a.tmps r).run P w = .ok x w ∧ RO E w v x := by
  cases r with
  | tmp t => simp only [resV1] at h; exact ⟨_, rfl, opv_sound h hc hs.fr⟩
  | cell p t =>
    simp only [resV1] at h
    split at h <;> try (simp at h; done)
    rename_i T g u hT ho
    split at h <;> simp at h
    rename_i g' v' hl
    obtain ⟨e, rfl⟩ := h
    obtain ⟨k1, k2⟩ := e.2 hc
    have hu := opv_sound ho k1 hs.fr
    obtain ⟨y, hy, hr⟩ := loadA_sound (P := P) hT hl k2 hs.fr hs.heap hu
    have hx : ∃ b off, a.eval (.tmp p) = .pointer (some ⟨b, off, none⟩) := by
      unfold loadA at hl
      split at hl
      · simp only [RO] at hu; obtain ⟨b, _, hu⟩ := hu; exact ⟨b, _, hu⟩
      · simp only [RO, R] at hu; obtain ⟨b, base, hu, _⟩ := hu; exact ⟨b, _, hu⟩
      · simp only [RO, R] at hu; obtain ⟨b, _, hu⟩ := hu; exact ⟨b, _, hu⟩
      · simp at hl
    obtain ⟨b, off, hx⟩ := hx
    have hx' : a.tmps.getD p undef = .pointer (some ⟨b, off, none⟩) := hx
    refine ⟨y, ?_, .of_R hr⟩
    have hy' : (loadVar t ⟨b, off, none⟩).run P w = .ok y w := by
      rw [hx] at hy
      simpa [Instr.loadAt, Instr.sureAddr] using hy
    simp only [resRun, hx', asAddr, Sem.run_bind, Sem.run_pure, Result.andThen_ok, hy']

theorem resVs_sound (hs : RSt E0 w0 n E w st a) : ∀ {rs : List ResultVar} {c : Prop} {vs : List V}, resVs P st rs = some (c, vs) → c →
    ∃ xs : List Value, (rs.mapM (resRun a.tmps)).run P w = .ok xs w ∧ RL E w vs xs
  | [], c, vs, h, hc => by simp [resVs] at h; obtain ⟨_, rfl⟩ := h; exact ⟨[], by simp, by simp [RL]⟩
  | r :: rs, c, vs, h, hc => by
    simp only [resVs] at h
    split at h <;> simp at h
    rename_i g v g' vs' h1 h2
    obtain ⟨e, rfl⟩ := h
    obtain ⟨k1, k2, k3⟩ := e.2 hc
    obtain ⟨x, hx, hr⟩ := resV1_sound h1 k1 hs
    obtain ⟨xs, hxs, hrs⟩ := resVs_sound hs h2 k3
    refine ⟨x :: xs, ?_, by simp only [RL]; exact ⟨x, xs, rfl, hr.of_tag k2, hrs⟩⟩
    rw [List.mapM_cons]
    simp only [Sem.run_bind]
    rw [hx]
    simp only [Result.andThen_ok]
    rw [hxs]
    simp

theorem resV_sound {fn : Func} {rs : List ResultVar} (hfn : fn.results.toList = rs) {c : Prop} {v : V} (h : resV P st rs = some (c, v)) (hc : c) (hs : RSt E0 w0 n E w st a) :
    ∃ x, (results fn a.tmps).run P w = .ok x w ∧ R E w v x := by
  subst hfn
  unfold resV at h
  have key : ∀ vs, resVs P st fn.results.toList = some (c, vs) → ∃ xs : Array Value, (fn.results.mapM (resRun a.tmps)).run P w = .ok xs w ∧ RL E w vs xs.toList := by
    intro vs hvs
    obtain ⟨xs, hx, hl⟩ := resVs_sound hs hvs hc
    refine ⟨xs.toArray, ?_, by simpa using hl⟩
    rw [Array.mapM_eq_mapM_toList, Sem.run_map, hx]
    rfl
  split at h
  · rename_i g v' hvs
    simp at h; obtain ⟨e, rfl⟩ := h
    rw [e] at hvs
    obtain ⟨xs, hx, hl⟩ := key _ hvs
    have hlen := hl.length
    simp at hlen
    refine ⟨_, results_run hx, ?_⟩
    rw [if_pos hlen.symm]
    simp only [RL] at hl
    obtain ⟨y, ys, hxs, hy, hys⟩ := hl
    have : xs.getD 0 undef = y := by
      have h0 : xs.toList[0]? = some y := by rw [hxs]; rfl
      have h1 : xs[0]? = some y := by simpa using h0
      simp [Array.getD_eq_getD_getElem?, h1]
    rw [this]; exact hy
  · rename_i g vs hne hvs
    simp at h; obtain ⟨e, rfl⟩ := h
    rw [e] at hvs
    obtain ⟨xs, hx, hl⟩ := key _ hvs
    have hlen := hl.length
    simp at hlen
    refine ⟨_, results_run hx, ?_⟩
    rw [if_neg (by
      rw [← hlen]; intro h1
      obtain ⟨v, hv⟩ := List.length_eq_one_iff.1 h1
      exact hne v hv)]
    simp only [R]; exact ⟨xs, rfl, hl⟩
  · simp at h

theorem RL.at {E : Env} {w : World} : ∀ {vs : List V} {xs : List Value} (t : Nat), RL E w vs xs → t < vs.length → R E w (vs.getD t (.tup [])) (xs.getD t undef)
  | [], _, t, _, ht => by simp at ht
  | v :: vs, xs, 0, h, ht => by
    simp only [RL] at h
    obtain ⟨y, ys, rfl, h1, _⟩ := h
    simpa using h1
  | v :: vs, xs, t + 1, h, ht => by
    simp only [RL] at h
    obtain ⟨y, ys, rfl, _, h2⟩ := h
    simpa using RL.at t h2 (by simpa using ht)

/-- A CONTRACT, OUT OF THE TRANSFORMER. -/
theorem Spec.intro {f : FuncId} {fn : Func} {c : Code} {n : Nat} {rs : List ResultVar} {args : List V} {M : Heap} {Post : V → Heap → Prop} (esc : Nat → Bool) (hmix : P.follows .mixedOrders = true) (hf : P.funcs[f]? = some fn) (hb : fn.body = some c)
    (hname : (fn.name == "runtime.NumGoroutine") = false) (hn : fn.ntmps = n) (hrs : fn.results.toList = rs) (ha : args.length ≤ n) (h : wpc P n esc c (endQ P rs Post) (initSt args M)) : Spec P f args M Post := by
  refine ⟨⟨fn, hf, hname, by rw [hb]; rfl⟩, fun E w xs hbx hinv hl hm => ?_⟩
  have hlen := hl.length
  simp at hlen
  refine calls_of_wp hf hb ?_
  have hst : RSt E w n E w (initSt args M) { tmps := xs ++ Array.replicate (fn.ntmps - xs.size) undef, defers := [] } := by
    refine ⟨hinv, fun t => ?_, by simp; omega, hm, rfl, fun s g _ => hbx s g⟩
    simp only [initSt]
    by_cases ht : t < args.length
    · have := RL.at t hl ht
      have hx : (xs ++ Array.replicate (fn.ntmps - xs.size) undef).getD t undef = xs.toList.getD t undef := by
        have htx : t < xs.size := by omega
        simp [Array.getD_eq_getD_getElem?, List.getD, Array.getElem?_append, htx]
      rw [hx]
      exact RS.of_RO (RO.of_R this)
    · have h1 : args.getD t (.tup []) = .tup [] := by simp [List.getD, List.getElem?_eq_none (by omega : args.length ≤ t)]
      have hx : (xs ++ Array.replicate (fn.ntmps - xs.size) undef).getD t undef = undef := by
        rw [Array.getD_eq_getD_getElem?, Array.getElem?_append]
        rw [if_neg (by omega)]
        simp [Array.getElem?_replicate]
        split <;> rfl
      rw [h1, hx]
      exact RS_tupnil t
  refine wp_mono (wpc_sound hmix c _ E w _ _ hst h) fun e a' w' hq => ?_
  have fin : ∀ (E' : Env) (st' : St), RSt E w n E' w' st' a' → (match resV P st' rs with | some (g, v) => g ∧ Post v st'.M | none => False) → a'.defers = [] ∧ ∃ v, (results fn a'.tmps).run P w' = .ok v w' ∧ ∃ x r M' E', Ending.returned v = .returned x ∧ Post r M' ∧ R E' w' r x ∧ RH E' w' M' ∧ Inv E w E' w' := by
    intro E' st' h' hp
    split at hp <;> try (exact hp.elim)
    rename_i g v hr
    obtain ⟨x, hx, hrx⟩ := resV_sound hrs hr hp.1 h'
    exact ⟨h'.defers, x, hx, x, v, st'.M, E', rfl, hp.2, hrx, h'.heap, h'.inv⟩
  cases e with
  | normal => obtain ⟨E', st', h', hp⟩ := hq; exact fin E' st' h' hp
  | ret => obtain ⟨E', st', h', hp⟩ := hq; exact fin E' st' h' hp
  | exit id => obtain ⟨E', st', h', hp⟩ := hq; exact hp.elim
  | goto l => exact hq.elim
  | panic ch => exact hq.elim
  | outgrown => exact hq.elim
end
end Go.Eng
