/- Contracts: what may be asked, and what may come. -/
import Derived.Test.YtndjoblgphalhaaT6
namespace Go.Eng.Try
open Go.Proofs
attribute [local go_sem] oss_nil_eq Int.toNat_natCast maxLen Nat.zero_le run step opv slotV opvs dstLt evalQ constV isA setD upd_app guardB List.getD_cons_zero List.getD_cons_succ List.getD_nil V.tag V.cells decide_true decide_false Bool.false_eq_true if_false if_true ne_eq Nat.one_ne_zero not_false_eq_true keyKind cellOk List.forall_mem_cons List.not_mem_nil false_implies true_and and_true implies_true forall_const bump addrAdd loadA loadV part opV binV eqlV eqOk pickV unV convV boundV fillV storeTo splice List.getElem?_cons_zero List.getElem?_cons_succ List.take_succ_cons List.take_zero List.drop_succ_cons List.drop_zero List.length_cons List.length_nil List.cons_append List.nil_append List.append_nil List.getElem_toArray List.getElem?_toArray List.size_toArray and_self eqV_tupl eqV_tupr fbt tbf beq_self_eq_true Bool.not_false Bool.not_true cond_true cond_false newVarW updH_self updH_updH isFuncFn runT stepT stepC isCallV callOf callV escL memN runW stepW stepCW runD stepD safeB slots ownS stepOwn reads runM stepM emptyH
set_option linter.unusedSimpArgs false
set_option linter.unusedVariables false

structure FetchD where
  (o : B) (a b : Int) (mt : B) (mw : Bool) (nt : B) (nw : Bool)
abbrev FetchD.c (f : FetchD) : List V := [.str f.o, .int .i64 f.a, .int .i64 f.b, .str f.mt, .bool f.mw, .str f.nt, .bool f.nw]
structure ReplyD where
  (st : Int) (m : MetaD) (a b age : Int)
abbrev ReplyD.c (r : ReplyD) : List V := [.int .i64 r.st, .str r.m.t, .bool r.m.w, .int .i64 r.m.mod, .int .i64 r.m.len, .int .i64 r.m.have_, .int .i64 r.m.fresh, .int .i64 r.m.while_, .int .i64 r.m.err, .lst (sl r.m.keys), .str r.m.ten, .bool r.m.keep, .int .i64 r.a, .int .i64 r.b, .int .i64 r.age]
def smallQ (f : FetchD) : Bool := decide (f.o.length ≤ 300) && (decide (f.mt.length ≤ 200) && decide (f.nt.length ≤ 200))
def fetchQ (f : FetchD) : Bool := objectQ f.o && (spanQ f.a f.b && (decide (f.a < f.b) && (strongQ f.mt f.mw && (strongQ f.nt f.nw && (tagNone f.mt f.mw || tagNone f.nt f.nw)))))
def endQ' (r : ReplyD) : Int := if r.m.len < 0 then 4611686018427387904 else r.m.len
def bringsQ (f : FetchD) (r : ReplyD) : Bool :=
  if r.st = 200 then decide (r.a = 0) && decide (r.b = endQ' r)
  else spanQ r.a r.b && (decide (r.a < r.b) && (decide (r.a = f.a) && (decide (r.b ≤ f.b) && decide (r.b ≤ endQ' r))))
def freshQ (f : FetchD) (r : ReplyD) : Bool := metaQ r.m && ((tagNone f.mt f.mw || strongEq f.mt f.mw r.m.t r.m.w) && bringsQ f r)

theorem s36 (t u : B) (w x : Bool) (M : Heap) : Pure Try.prog 36 [.agg [.str t, .bool w], .agg [.str u, .bool x]] M (.bool (strongEq t w u x)) := by
  refine Spec.strip (fun _ => false) ok36 (by simp) ?_
  unfold c36
  refine wps_seq_k fun K1 hK1 => wps_regT tab3 tab3_ok ?_; simp only [go_sem, Nat.reduceLeDiff, Nat.reducePow, Nat.reduceSub, Nat.reduceLT, Nat.reduceEqDiff, Nat.reduceAdd, Nat.reduceMul, ↓reduceIte, reduceCtorEq, tab3, tab2, tab1, tab0]; (first | (refine hK1 _ ?_; clear hK1 K1) | (refine ⟨?_, hK1 _ ?_⟩ <;> clear hK1 K1; first | (· (simp; done)) | (· (simp +contextual; done)) | (· (simp +contextual; omega)) | (· grind) | skip))
  refine wps_seq_k fun K1 hK1 => wps_regT tab3 tab3_ok ?_; simp only [go_sem, Nat.reduceLeDiff, Nat.reducePow, Nat.reduceSub, Nat.reduceLT, Nat.reduceEqDiff, Nat.reduceAdd, Nat.reduceMul, ↓reduceIte, reduceCtorEq, tab3, tab2, tab1, tab0, fi25_1, ti25, ti4]; (first | (refine hK1 _ ?_; clear hK1 K1) | (refine ⟨?_, hK1 _ ?_⟩ <;> clear hK1 K1; first | (· (simp; done)) | (· (simp +contextual; done)) | (· (simp +contextual; omega)) | (· grind) | skip))
  simp only [wps, endQ, resV, resVs, resV1, go_sem, Nat.reduceLeDiff, Nat.reducePow, Nat.reduceSub, Nat.reduceLT, Nat.reduceEqDiff, Nat.reduceAdd, Nat.reduceMul, ↓reduceIte, reduceCtorEq, tab3, tab2, tab1, tab0]
  simp [strongEq, Bool.and_assoc]
theorem s39 (t u : B) (w x : Bool) (M : Heap) : Pure Try.prog 39 [.agg [.str t, .bool w], .agg [.str u, .bool x]] M (.bool (strongEq t w u x)) := by
  refine Spec.strip (fun _ => false) ok39 (by simp) ?_
  unfold c39
  refine wps_seq_k fun K1 hK1 => wps_regT tab3 tab3_ok ?_; simp only [go_sem, Nat.reduceLeDiff, Nat.reducePow, Nat.reduceSub, Nat.reduceLT, Nat.reduceEqDiff, Nat.reduceAdd, Nat.reduceMul, ↓reduceIte, reduceCtorEq, tab3, tab2, tab1, tab0]; (first | (refine hK1 _ ?_; clear hK1 K1) | (refine ⟨?_, hK1 _ ?_⟩ <;> clear hK1 K1; first | (· (simp; done)) | (· (simp +contextual; done)) | (· (simp +contextual; omega)) | (· grind) | skip))
  refine wps_seq_k fun K1 hK1 => wps_regT tab3 tab3_ok ?_; simp only [go_sem, Nat.reduceLeDiff, Nat.reducePow, Nat.reduceSub, Nat.reduceLT, Nat.reduceEqDiff, Nat.reduceAdd, Nat.reduceMul, ↓reduceIte, reduceCtorEq, tab3, tab2, tab1, tab0, fi25_1, ti25, ti4]; (first | (refine hK1 _ ?_; clear hK1 K1) | (refine ⟨?_, hK1 _ ?_⟩ <;> clear hK1 K1; first | (· (simp; done)) | (· (simp +contextual; done)) | (· (simp +contextual; omega)) | (· grind) | skip))
  simp only [wps, endQ, resV, resVs, resV1, go_sem, Nat.reduceLeDiff, Nat.reducePow, Nat.reduceSub, Nat.reduceLT, Nat.reduceEqDiff, Nat.reduceAdd, Nat.reduceMul, ↓reduceIte, reduceCtorEq, tab3, tab2, tab1, tab0]
  simp [strongEq, Bool.and_assoc]
theorem s10 (f : FetchD) (M : Heap) : Pure Try.prog 10 [.agg f.c] M (.bool (smallQ f)) := by
  refine Spec.strip (fun _ => false) ok10 (by simp) ?_
  unfold c10
  refine wps_seq_k fun K1 hK1 => wps_regT tab3 tab3_ok ?_; simp only [go_sem, Nat.reduceLeDiff, Nat.reducePow, Nat.reduceSub, Nat.reduceLT, Nat.reduceEqDiff, Nat.reduceAdd, Nat.reduceMul, ↓reduceIte, reduceCtorEq, tab3, tab2, tab1, tab0]; (first | (refine hK1 _ ?_; clear hK1 K1) | (refine ⟨?_, hK1 _ ?_⟩ <;> clear hK1 K1; first | (· (simp; done)) | (· (simp +contextual; done)) | (· (simp +contextual; omega)) | (· grind) | skip))
  refine wps_seq_k fun K1 hK1 => wps_regT tab3 tab3_ok ?_; simp only [go_sem, Nat.reduceLeDiff, Nat.reducePow, Nat.reduceSub, Nat.reduceLT, Nat.reduceEqDiff, Nat.reduceAdd, Nat.reduceMul, ↓reduceIte, reduceCtorEq, tab3, tab2, tab1, tab0, fi25_0, fi27_0, fi27_2, fi27_3, ti9, und9]; (first | (refine hK1 _ ?_; clear hK1 K1) | (refine ⟨?_, hK1 _ ?_⟩ <;> clear hK1 K1; first | (· (simp; done)) | (· (simp +contextual; done)) | (· (simp +contextual; omega)) | (· grind) | skip))
  simp only [wps, endQ, resV, resVs, resV1, go_sem, Nat.reduceLeDiff, Nat.reducePow, Nat.reduceSub, Nat.reduceLT, Nat.reduceEqDiff, Nat.reduceAdd, Nat.reduceMul, ↓reduceIte, reduceCtorEq, tab3, tab2, tab1, tab0]
  (first | rw [V.bool.injEq] | simp only [V.bool.injEq, true_and, and_true] | skip); rw [Bool.eq_iff_iff]; simp [smallQ]
  omega
theorem s12 (f : FetchD) (M : Heap) : Pure Try.prog 12 [.agg f.c] M (.bool (fetchQ f)) := by
  refine Spec.strip (fun _ => false) ok12 (by simp) ?_
  unfold c12
  refine wps_seq_k fun K1 hK1 => wps_regT tab3 tab3_ok ?_; simp only [go_sem, Nat.reduceLeDiff, Nat.reducePow, Nat.reduceSub, Nat.reduceLT, Nat.reduceEqDiff, Nat.reduceAdd, Nat.reduceMul, ↓reduceIte, reduceCtorEq, tab3, tab2, tab1, tab0]; (first | (refine hK1 _ ?_; clear hK1 K1) | (refine ⟨?_, hK1 _ ?_⟩ <;> clear hK1 K1; first | (· (simp; done)) | (· (simp +contextual; done)) | (· (simp +contextual; omega)) | (· grind) | skip))
  refine wps_seq_k fun K1 hK1 => wps_regT tab3 tab3_ok ?_; simp only [go_sem, Nat.reduceLeDiff, Nat.reducePow, Nat.reduceSub, Nat.reduceLT, Nat.reduceEqDiff, Nat.reduceAdd, Nat.reduceMul, ↓reduceIte, reduceCtorEq, tab3, tab2, tab1, tab0, bs25, ti25, zero25]; (first | (refine hK1 _ ?_; clear hK1 K1) | (refine ⟨?_, hK1 _ ?_⟩ <;> clear hK1 K1; first | (· (simp; done)) | (· (simp +contextual; done)) | (· (simp +contextual; omega)) | (· grind) | skip))
  refine wps_seq_k fun K1 hK1 => wps_regT tab3 tab3_ok ?_; simp only [go_sem, Nat.reduceLeDiff, Nat.reducePow, Nat.reduceSub, Nat.reduceLT, Nat.reduceEqDiff, Nat.reduceAdd, Nat.reduceMul, ↓reduceIte, reduceCtorEq, tab3, tab2, tab1, tab0, eg25, eq25, fi23_0, fi23_1, fi27_0, fi27_1, fi27_2, fi27_3, ti2, ti23, ti25, ti9, und9]; (first | (refine hK1 _ ?_; clear hK1 K1) | (refine ⟨?_, hK1 _ ?_⟩ <;> clear hK1 K1; first | (· (simp; done)) | (· (simp +contextual; done)) | (· (simp +contextual; omega)) | (· grind) | skip))
  simp only [wps, endQ, resV, resVs, resV1, go_sem, Nat.reduceLeDiff, Nat.reducePow, Nat.reduceSub, Nat.reduceLT, Nat.reduceEqDiff, Nat.reduceAdd, Nat.reduceMul, ↓reduceIte, reduceCtorEq, tab3, tab2, tab1, tab0]
  simp [fetchQ, spanQ, tagNone, Bool.and_assoc]
theorem s13 (f : FetchD) (M : Heap) : Pure Try.prog 13 [.agg f.c] M (.bool (fetchQ f)) := by
  refine Spec.strip (fun _ => false) ok13 (by simp) ?_
  unfold c13
  refine wps_seq_k fun K1 hK1 => wps_regT tab3 tab3_ok ?_; simp only [go_sem, Nat.reduceLeDiff, Nat.reducePow, Nat.reduceSub, Nat.reduceLT, Nat.reduceEqDiff, Nat.reduceAdd, Nat.reduceMul, ↓reduceIte, reduceCtorEq, tab3, tab2, tab1, tab0]; (first | (refine hK1 _ ?_; clear hK1 K1) | (refine ⟨?_, hK1 _ ?_⟩ <;> clear hK1 K1; first | (· (simp; done)) | (· (simp +contextual; done)) | (· (simp +contextual; omega)) | (· grind) | skip))
  refine wps_seq_k fun K2 hK2 => ?_
  refine wps_seq_k fun K1 hK1 => wps_regT tab3 tab3_ok ?_; simp only [go_sem, Nat.reduceLeDiff, Nat.reducePow, Nat.reduceSub, Nat.reduceLT, Nat.reduceEqDiff, Nat.reduceAdd, Nat.reduceMul, ↓reduceIte, reduceCtorEq, tab3, tab2, tab1, tab0, fi23_0, fi23_1, fi27_0, fi27_1, ti2, ti23, ti9, und9]; (first | (refine hK1 _ ?_; clear hK1 K1) | (refine ⟨?_, hK1 _ ?_⟩ <;> clear hK1 K1; first | (· (simp; done)) | (· (simp +contextual; done)) | (· (simp +contextual; omega)) | (· grind) | skip))
  refine wps_cond (by simp only [go_sem, Nat.reduceLeDiff, Nat.reducePow, Nat.reduceSub, Nat.reduceLT, Nat.reduceEqDiff, Nat.reduceAdd, Nat.reduceMul, ↓reduceIte, reduceCtorEq, tab3, tab2, tab1, tab0]; rfl) (by simp) (fun hb => ?_) (fun hb => ?_)
  · refine wps_seq_k fun K1 hK1 => wps_regT tab3 tab3_ok ?_; simp only [go_sem, Nat.reduceLeDiff, Nat.reducePow, Nat.reduceSub, Nat.reduceLT, Nat.reduceEqDiff, Nat.reduceAdd, Nat.reduceMul, ↓reduceIte, reduceCtorEq, tab3, tab2, tab1, tab0]; (first | (refine hK1 _ ?_; clear hK1 K1) | (refine ⟨?_, hK1 _ ?_⟩ <;> clear hK1 K1; first | (· (simp; done)) | (· (simp +contextual; done)) | (· (simp +contextual; omega)) | (· grind) | skip))
    simp only [wps, endQ, resV, resVs, resV1, go_sem, Nat.reduceLeDiff, Nat.reducePow, Nat.reduceSub, Nat.reduceLT, Nat.reduceEqDiff, Nat.reduceAdd, Nat.reduceMul, ↓reduceIte, reduceCtorEq, tab3, tab2, tab1, tab0]
    simp only [V.bool.injEq]
    symm
    simp [fetchQ, spanQ] at hb ⊢
    intro h1 h2
    rcases hb with (hb | hb) | hb
    · rw [h1] at hb; cases hb
    · intros; omega
    · intros; omega
  · refine hK2 _ ?_; clear hK2 K2
    refine wps_seq_k fun K1 hK1 => wps_regT tab3 tab3_ok ?_; simp only [go_sem, Nat.reduceLeDiff, Nat.reducePow, Nat.reduceSub, Nat.reduceLT, Nat.reduceEqDiff, Nat.reduceAdd, Nat.reduceMul, ↓reduceIte, reduceCtorEq, tab3, tab2, tab1, tab0, fi27_2, fi27_3, ti25]; (first | (refine hK1 _ ?_; clear hK1 K1) | (refine ⟨?_, hK1 _ ?_⟩ <;> clear hK1 K1; first | (· (simp; done)) | (· (simp +contextual; done)) | (· (simp +contextual; omega)) | (· grind) | skip))
    simp only [wps, endQ, resV, resVs, resV1, go_sem, Nat.reduceLeDiff, Nat.reducePow, Nat.reduceSub, Nat.reduceLT, Nat.reduceEqDiff, Nat.reduceAdd, Nat.reduceMul, ↓reduceIte, reduceCtorEq, tab3, tab2, tab1, tab0]
    simp at hb
    (first | rw [V.bool.injEq] | simp only [V.bool.injEq, true_and, and_true] | skip); rw [Bool.eq_iff_iff]; simp [fetchQ, hb, and_assoc]
    have h1 : f.a < f.b := by have := hb.1.2; simp [spanQ] at this; omega
    cases hx : tagNone f.mt f.mw <;> simp [h1]
end Go.Eng.Try
