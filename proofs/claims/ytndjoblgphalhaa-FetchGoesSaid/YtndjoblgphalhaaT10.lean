/- Contracts: a fetch under way. -/
import Derived.Test.YtndjoblgphalhaaT9
namespace Go.Eng.Try
open Go.Proofs
attribute [local go_sem] oss_nil_eq Int.toNat_natCast maxLen Nat.zero_le run step opv slotV opvs dstLt evalQ constV isA setD upd_app guardB List.getD_cons_zero List.getD_cons_succ List.getD_nil V.tag V.cells decide_true decide_false Bool.false_eq_true if_false if_true ne_eq Nat.one_ne_zero not_false_eq_true keyKind cellOk List.forall_mem_cons List.not_mem_nil false_implies true_and and_true implies_true forall_const bump addrAdd loadA loadV part opV binV eqlV eqOk pickV unV convV boundV fillV storeTo splice List.getElem?_cons_zero List.getElem?_cons_succ List.take_succ_cons List.take_zero List.drop_succ_cons List.drop_zero List.length_cons List.length_nil List.cons_append List.nil_append List.append_nil List.getElem_toArray List.getElem?_toArray List.size_toArray and_self eqV_tupl eqV_tupr fbt tbf beq_self_eq_true Bool.not_false Bool.not_true cond_true cond_false newVarW updH_self updH_updH isFuncFn runT stepT stepC isCallV callOf callV escL memN runW stepW stepCW runD stepD safeB slots ownS stepOwn reads runM stepM emptyH
set_option linter.unusedSimpArgs false
set_option linter.unusedVariables false

/-- A fetch under way. -/
structure FS where
  (f : FetchD) (s a b : Int)
abbrev FS.c (x : FS) : List V := [.str x.f.o, .int .i64 x.f.a, .int .i64 x.f.b, .str x.f.mt, .bool x.f.mw, .str x.f.nt, .bool x.f.nw, .int .i64 x.s, .int .i64 x.a, .int .i64 x.b]

def tab6 : Tab := fun M id vs => match id, vs with
  | 14, [.agg [.str o, .int .i64 fa, .int .i64 fb, .str mt, .bool mw, .str nt, .bool nw], .agg [.int .i64 st, .str t, .bool w, .int .i64 mod, .int .i64 len, .int .i64 have_, .int .i64 fresh, .int .i64 while_, .int .i64 err, .lst es, .str ten, .bool keep, .int .i64 a, .int .i64 b, .int .i64 age]] => match unsl es with
    | some ks => some (True, .int .i64 (readQ ⟨o, fa, fb, mt, mw, nt, nw⟩ ⟨st, ⟨t, w, mod, len, have_, fresh, while_, err, ks, ten, keep⟩, a, b, age⟩))
    | none => none
  | 15, [.agg [.str o, .int .i64 fa, .int .i64 fb, .str mt, .bool mw, .str nt, .bool nw], .agg [.int .i64 st, .str t, .bool w, .int .i64 mod, .int .i64 len, .int .i64 have_, .int .i64 fresh, .int .i64 while_, .int .i64 err, .lst es, .str ten, .bool keep, .int .i64 a, .int .i64 b, .int .i64 age]] => match unsl es with
    | some ks => some (True, .int .i64 (readQ ⟨o, fa, fb, mt, mw, nt, nw⟩ ⟨st, ⟨t, w, mod, len, have_, fresh, while_, err, ks, ten, keep⟩, a, b, age⟩))
    | none => none
  | id, vs => tab5 M id vs

theorem tab6_ok : TabOk Try.prog tab6 := by
  intro M id vs g r h hg
  unfold tab6 at h
  split at h <;> (try simp only [Option.some.injEq, Prod.mk.injEq, reduceCtorEq] at h) <;> (try (obtain ⟨rfl, rfl⟩ := h))
  · split at h <;> (try simp only [Option.some.injEq, Prod.mk.injEq, reduceCtorEq] at h)
    obtain ⟨rfl, rfl⟩ := h
    rename_i hu
    rw [unsl_eq hu]
    exact s14 ⟨_, _, _, _, _, _, _⟩ ⟨_, ⟨_, _, _, _, _, _, _, _, _, _, _⟩, _, _, _⟩ _
  · split at h <;> (try simp only [Option.some.injEq, Prod.mk.injEq, reduceCtorEq] at h)
    obtain ⟨rfl, rfl⟩ := h
    rename_i hu
    rw [unsl_eq hu]
    exact s15 ⟨_, _, _, _, _, _, _⟩ ⟨_, ⟨_, _, _, _, _, _, _, _, _, _, _⟩, _, _, _⟩ _
  · exact tab5_ok _ _ _ _ _ h hg

theorem s41 (o : Nat) (x : FS) (n : Int) (M : Heap) (hm : M o = some (.cells x.c)) : Pure Try.prog 41 [.ptr o 0, .int .i64 n] M (.bool (decide (x.s = n))) := by
  refine Spec.strip (fun _ => false) ok41 (by simp) ?_
  unfold c41
  refine wps_seq_k fun K1 hK1 => wps_regT tab6 tab6_ok ?_; simp only [go_sem, Nat.reduceLeDiff, Nat.reducePow, Nat.reduceSub, Nat.reduceLT, Nat.reduceEqDiff, Nat.reduceAdd, Nat.reduceMul, ↓reduceIte, reduceCtorEq, tab6, tab5, tab4, tab3, tab2, tab1, tab0, unsl_sl]; (first | (refine hK1 _ ?_; clear hK1 K1) | (refine ⟨?_, hK1 _ ?_⟩ <;> clear hK1 K1; first | (· (simp; done)) | (· (simp +contextual; done)) | (· (simp +contextual; omega)) | (· grind) | skip))
  refine wps_seq_k fun K1 hK1 => wps_regT tab6 tab6_ok ?_; simp only [go_sem, Nat.reduceLeDiff, Nat.reducePow, Nat.reduceSub, Nat.reduceLT, Nat.reduceEqDiff, Nat.reduceAdd, Nat.reduceMul, ↓reduceIte, reduceCtorEq, tab6, tab5, tab4, tab3, tab2, tab1, tab0, unsl_sl, eq41a, eq41b, eq41c, fi74_1, ti3, und41, hm]; (first | (refine hK1 _ ?_; clear hK1 K1) | (refine ⟨?_, hK1 _ ?_⟩ <;> clear hK1 K1; first | (· (simp; done)) | (· (simp +contextual; done)) | (· (simp +contextual; omega)) | (· grind) | skip))
  simp only [wps, endQ, resV, resVs, resV1, go_sem, Nat.reduceLeDiff, Nat.reducePow, Nat.reduceSub, Nat.reduceLT, Nat.reduceEqDiff, Nat.reduceAdd, Nat.reduceMul, ↓reduceIte, reduceCtorEq, tab6, tab5, tab4, tab3, tab2, tab1, tab0, unsl_sl]
  rfl
theorem s41n (n : Int) (M : Heap) : Pure Try.prog 41 [.nilp, .int .i64 n] M (.bool false) := by
  refine Spec.strip (fun _ => false) ok41 (by simp) ?_
  unfold c41
  refine wps_seq_k fun K1 hK1 => wps_regT tab6 tab6_ok ?_; simp only [go_sem, Nat.reduceLeDiff, Nat.reducePow, Nat.reduceSub, Nat.reduceLT, Nat.reduceEqDiff, Nat.reduceAdd, Nat.reduceMul, ↓reduceIte, reduceCtorEq, tab6, tab5, tab4, tab3, tab2, tab1, tab0, unsl_sl]; (first | (refine hK1 _ ?_; clear hK1 K1) | (refine ⟨?_, hK1 _ ?_⟩ <;> clear hK1 K1; first | (· (simp; done)) | (· (simp +contextual; done)) | (· (simp +contextual; omega)) | (· grind) | skip))
  refine wps_seq_k fun K1 hK1 => wps_regT tab6 tab6_ok ?_; simp only [go_sem, Nat.reduceLeDiff, Nat.reducePow, Nat.reduceSub, Nat.reduceLT, Nat.reduceEqDiff, Nat.reduceAdd, Nat.reduceMul, ↓reduceIte, reduceCtorEq, tab6, tab5, tab4, tab3, tab2, tab1, tab0, unsl_sl, eq41a, eq41b, eq41c, fi74_1, ti3, und41]; (first | (refine hK1 _ ?_; clear hK1 K1) | (refine ⟨?_, hK1 _ ?_⟩ <;> clear hK1 K1; first | (· (simp; done)) | (· (simp +contextual; done)) | (· (simp +contextual; omega)) | (· grind) | skip))
  simp only [wps, endQ, resV, resVs, resV1, go_sem, Nat.reduceLeDiff, Nat.reducePow, Nat.reduceSub, Nat.reduceLT, Nat.reduceEqDiff, Nat.reduceAdd, Nat.reduceMul, ↓reduceIte, reduceCtorEq, tab6, tab5, tab4, tab3, tab2, tab1, tab0, unsl_sl]
theorem s26 (o : Nat) (x : FS) (M : Heap) (hm : M o = some (.cells x.c)) : Pure Try.prog 26 [.ptr o 0] M (.bool (decide (x.s = 2))) := by
  refine Spec.strip (fun _ => false) ok26 (by simp) ?_
  unfold c26
  refine wps_seq_k fun K1 hK1 => wps_regT tab6 tab6_ok ?_; simp only [go_sem, Nat.reduceLeDiff, Nat.reducePow, Nat.reduceSub, Nat.reduceLT, Nat.reduceEqDiff, Nat.reduceAdd, Nat.reduceMul, ↓reduceIte, reduceCtorEq, tab6, tab5, tab4, tab3, tab2, tab1, tab0, unsl_sl]; (first | (refine hK1 _ ?_; clear hK1 K1) | (refine ⟨?_, hK1 _ ?_⟩ <;> clear hK1 K1; first | (· (simp; done)) | (· (simp +contextual; done)) | (· (simp +contextual; omega)) | (· grind) | skip))
  refine wps_seq_k fun K1 hK1 => wps_regT tab6 tab6_ok ?_; simp only [go_sem, Nat.reduceLeDiff, Nat.reducePow, Nat.reduceSub, Nat.reduceLT, Nat.reduceEqDiff, Nat.reduceAdd, Nat.reduceMul, ↓reduceIte, reduceCtorEq, tab6, tab5, tab4, tab3, tab2, tab1, tab0, unsl_sl, eq41a, eq41b, eq41c, fi74_1, ti3, und41, hm]; (first | (refine hK1 _ ?_; clear hK1 K1) | (refine ⟨?_, hK1 _ ?_⟩ <;> clear hK1 K1; first | (· (simp; done)) | (· (simp +contextual; done)) | (· (simp +contextual; omega)) | (· grind) | skip))
  simp only [wps, endQ, resV, resVs, resV1, go_sem, Nat.reduceLeDiff, Nat.reducePow, Nat.reduceSub, Nat.reduceLT, Nat.reduceEqDiff, Nat.reduceAdd, Nat.reduceMul, ↓reduceIte, reduceCtorEq, tab6, tab5, tab4, tab3, tab2, tab1, tab0, unsl_sl]
  rfl
theorem s26n (M : Heap) : Pure Try.prog 26 [.nilp] M (.bool true) := by
  refine Spec.strip (fun _ => false) ok26 (by simp) ?_
  unfold c26
  refine wps_seq_k fun K1 hK1 => wps_regT tab6 tab6_ok ?_; simp only [go_sem, Nat.reduceLeDiff, Nat.reducePow, Nat.reduceSub, Nat.reduceLT, Nat.reduceEqDiff, Nat.reduceAdd, Nat.reduceMul, ↓reduceIte, reduceCtorEq, tab6, tab5, tab4, tab3, tab2, tab1, tab0, unsl_sl]; (first | (refine hK1 _ ?_; clear hK1 K1) | (refine ⟨?_, hK1 _ ?_⟩ <;> clear hK1 K1; first | (· (simp; done)) | (· (simp +contextual; done)) | (· (simp +contextual; omega)) | (· grind) | skip))
  refine wps_seq_k fun K1 hK1 => wps_regT tab6 tab6_ok ?_; simp only [go_sem, Nat.reduceLeDiff, Nat.reducePow, Nat.reduceSub, Nat.reduceLT, Nat.reduceEqDiff, Nat.reduceAdd, Nat.reduceMul, ↓reduceIte, reduceCtorEq, tab6, tab5, tab4, tab3, tab2, tab1, tab0, unsl_sl, eq41a, eq41b, eq41c, fi74_1, ti3, und41]; (first | (refine hK1 _ ?_; clear hK1 K1) | (refine ⟨?_, hK1 _ ?_⟩ <;> clear hK1 K1; first | (· (simp; done)) | (· (simp +contextual; done)) | (· (simp +contextual; omega)) | (· grind) | skip))
  simp only [wps, endQ, resV, resVs, resV1, go_sem, Nat.reduceLeDiff, Nat.reducePow, Nat.reduceSub, Nat.reduceLT, Nat.reduceEqDiff, Nat.reduceAdd, Nat.reduceMul, ↓reduceIte, reduceCtorEq, tab6, tab5, tab4, tab3, tab2, tab1, tab0, unsl_sl]

def beginPost (f : FetchD) (M : Heap) (r : V) (M' : Heap) : Prop :=
  (fetchQ f = true ∧ ∃ o, M o = none ∧ r = .tup [.ptr o 0, .int .i64 0] ∧ M' = updH M o (.cells (FS.c ⟨f, 0, 0, 0⟩))) ∨ (fetchQ f = false ∧ r = .tup [.nilp, .int .i64 1] ∧ M' = M)

theorem s16 (f : FetchD) (M : Heap) : Spec Try.prog 16 [.agg f.c] M (beginPost f M) := by
  refine Spec.strip (fun d => decide (d = 9)) ok16 (by simp) ?_
  unfold c16
  refine wps_seq_k fun K1 hK1 => wps_regT tab6 tab6_ok ?_; simp only [go_sem, Nat.reduceLeDiff, Nat.reducePow, Nat.reduceSub, Nat.reduceLT, Nat.reduceEqDiff, Nat.reduceAdd, Nat.reduceMul, ↓reduceIte, reduceCtorEq, tab6, tab5, tab4, tab3, tab2, tab1, tab0, unsl_sl]; (first | (refine hK1 _ ?_; clear hK1 K1) | (refine ⟨?_, hK1 _ ?_⟩ <;> clear hK1 K1; first | (· (simp; done)) | (· (simp +contextual; done)) | (· (simp +contextual; omega)) | (· grind) | skip))
  refine wps_seq_k fun K2 hK2 => ?_
  refine wps_seq_k fun K1 hK1 => wps_regT tab6 tab6_ok ?_; simp only [go_sem, Nat.reduceLeDiff, Nat.reducePow, Nat.reduceSub, Nat.reduceLT, Nat.reduceEqDiff, Nat.reduceAdd, Nat.reduceMul, ↓reduceIte, reduceCtorEq, tab6, tab5, tab4, tab3, tab2, tab1, tab0, unsl_sl, ti27]; (first | (refine hK1 _ ?_; clear hK1 K1) | (refine ⟨?_, hK1 _ ?_⟩ <;> clear hK1 K1; first | (· (simp; done)) | (· (simp +contextual; done)) | (· (simp +contextual; omega)) | (· grind) | skip))
  refine wps_cond (by simp only [go_sem, Nat.reduceLeDiff, Nat.reducePow, Nat.reduceSub, Nat.reduceLT, Nat.reduceEqDiff, Nat.reduceAdd, Nat.reduceMul, ↓reduceIte, reduceCtorEq, tab6, tab5, tab4, tab3, tab2, tab1, tab0, unsl_sl]; rfl) (by simp) (fun hb => ?_) (fun hb => ?_)
  · refine wps_seq_k fun K1 hK1 => wps_regT tab6 tab6_ok ?_; simp only [go_sem, Nat.reduceLeDiff, Nat.reducePow, Nat.reduceSub, Nat.reduceLT, Nat.reduceEqDiff, Nat.reduceAdd, Nat.reduceMul, ↓reduceIte, reduceCtorEq, tab6, tab5, tab4, tab3, tab2, tab1, tab0, unsl_sl]; (first | (refine hK1 _ ?_; clear hK1 K1) | (refine ⟨?_, hK1 _ ?_⟩ <;> clear hK1 K1; first | (· (simp; done)) | (· (simp +contextual; done)) | (· (simp +contextual; omega)) | (· grind) | skip))
    simp only [wps, endQ, resV, resVs, resV1, go_sem, Nat.reduceLeDiff, Nat.reducePow, Nat.reduceSub, Nat.reduceLT, Nat.reduceEqDiff, Nat.reduceAdd, Nat.reduceMul, ↓reduceIte, reduceCtorEq, tab6, tab5, tab4, tab3, tab2, tab1, tab0, unsl_sl]
    simp at hb
    exact .inr ⟨hb, rfl, rfl⟩
  · refine hK2 _ ?_; clear hK2 K2
    refine wps_seq_k fun K1 hK1 => wps_regT tab6 tab6_ok ?_; simp only [go_sem, Nat.reduceLeDiff, Nat.reducePow, Nat.reduceSub, Nat.reduceLT, Nat.reduceEqDiff, Nat.reduceAdd, Nat.reduceMul, ↓reduceIte, reduceCtorEq, tab6, tab5, tab4, tab3, tab2, tab1, tab0, unsl_sl, bs74, fi74_0, ti27, zero74]; (first | (refine oss_obl ?_ ?_; first | (· (simp; done)) | (· (simp +contextual; done)) | (· (simp +contextual; omega)) | (· grind) | skip) | skip)
    refine oss_op rfl rfl ?_; simp only [opw, SO.oper, go_sem, Nat.reduceLeDiff, Nat.reducePow, Nat.reduceSub, Nat.reduceLT, Nat.reduceEqDiff, Nat.reduceAdd, Nat.reduceMul, ↓reduceIte, reduceCtorEq, tab6, tab5, tab4, tab3, tab2, tab1, tab0, unsl_sl, bs74, fi74_0, ti27, zero74]
    intro o ho
    refine oss_runT tab6 tab6_ok ?_; simp only [go_sem, Nat.reduceLeDiff, Nat.reducePow, Nat.reduceSub, Nat.reduceLT, Nat.reduceEqDiff, Nat.reduceAdd, Nat.reduceMul, ↓reduceIte, reduceCtorEq, tab6, tab5, tab4, tab3, tab2, tab1, tab0, unsl_sl]; (first | (refine hK1 _ ?_; clear hK1 K1) | (refine ⟨?_, hK1 _ ?_⟩ <;> clear hK1 K1; first | (· (simp; done)) | (· (simp +contextual; done)) | (· (simp +contextual; omega)) | (· grind) | skip))
    simp only [wps, endQ, resV, resVs, resV1, go_sem, Nat.reduceLeDiff, Nat.reducePow, Nat.reduceSub, Nat.reduceLT, Nat.reduceEqDiff, Nat.reduceAdd, Nat.reduceMul, ↓reduceIte, reduceCtorEq, tab6, tab5, tab4, tab3, tab2, tab1, tab0, unsl_sl]
    simp at hb
    exact .inl ⟨hb, o, ho, rfl, rfl⟩

/-! The document's fetch, step by step. -/
def beginF (f : FetchD) : FS × Int := if fetchQ f then (⟨f, 0, 0, 0⟩, 0) else (⟨⟨[], 0, 0, [], false, [], false⟩, 0, 0, 0⟩, 1)
def replyF (x : FS) (r : ReplyD) : FS × Int × Int :=
  if x.s = 0 then (if readQ x.f r = 1 then (⟨x.f, 1, r.a, r.b⟩, 1, 0) else (⟨x.f, 2, x.a, x.b⟩, readQ x.f r, 0)) else (x, 0, 11)
def dataF (x : FS) (n : Int) : FS × (Int × Int) × Int :=
  if x.s = 1 then (if n < 1 then (x, (0, 0), 1) else if IntKind.i64.wrap (x.b - x.a) < n then (x, (0, 0), 4) else (⟨x.f, 1, IntKind.i64.wrap (x.a + n), x.b⟩, (x.a, IntKind.i64.wrap (x.a + n)), 0)) else (x, (0, 0), 11)
def closeF (x : FS) (whole : Bool) : FS × Int :=
  if x.s = 2 then (x, 11) else (⟨x.f, 2, x.a, x.b⟩, if x.s = 1 ∧ whole = true ∧ (x.a = x.b ∨ x.b = 4611686018427387904) then 0 else 13)
def restF (x : FS) : (Int × Int) × Bool := if x.s = 1 ∧ x.a ≠ x.b then ((x.a, x.b), true) else ((0, 0), false)
end Go.Eng.Try
