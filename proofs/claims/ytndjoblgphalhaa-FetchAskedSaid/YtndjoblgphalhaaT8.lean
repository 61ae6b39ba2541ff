/- Contracts: what a reply is. -/
import Derived.Test.YtndjoblgphalhaaT7
namespace Go.Eng.Try
open Go.Proofs
attribute [local go_sem] oss_nil_eq Int.toNat_natCast maxLen Nat.zero_le run step opv slotV opvs dstLt evalQ constV isA setD upd_app guardB List.getD_cons_zero List.getD_cons_succ List.getD_nil V.tag V.cells decide_true decide_false Bool.false_eq_true if_false if_true ne_eq Nat.one_ne_zero not_false_eq_true keyKind cellOk List.forall_mem_cons List.not_mem_nil false_implies true_and and_true implies_true forall_const bump addrAdd loadA loadV part opV binV eqlV eqOk pickV unV convV boundV fillV storeTo splice List.getElem?_cons_zero List.getElem?_cons_succ List.take_succ_cons List.take_zero List.drop_succ_cons List.drop_zero List.length_cons List.length_nil List.cons_append List.nil_append List.append_nil List.getElem_toArray List.getElem?_toArray List.size_toArray and_self eqV_tupl eqV_tupr fbt tbf beq_self_eq_true Bool.not_false Bool.not_true cond_true cond_false newVarW updH_self updH_updH isFuncFn runT stepT stepC isCallV callOf callV escL memN runW stepW stepCW runD stepD safeB slots ownS stepOwn reads runM stepM emptyH
set_option linter.unusedSimpArgs false
set_option linter.unusedVariables false

def tab4 : Tab := fun M id vs => match id, vs with
  | 36, [.agg [.str t, .bool w], .agg [.str u, .bool x]] => some (True, .bool (strongEq t w u x))
  | 39, [.agg [.str t, .bool w], .agg [.str u, .bool x]] => some (True, .bool (strongEq t w u x))
  | 10, [.agg [.str o, .int .i64 a, .int .i64 b, .str mt, .bool mw, .str nt, .bool nw]] => some (True, .bool (smallQ ⟨o, a, b, mt, mw, nt, nw⟩))
  | 12, [.agg [.str o, .int .i64 a, .int .i64 b, .str mt, .bool mw, .str nt, .bool nw]] => some (True, .bool (fetchQ ⟨o, a, b, mt, mw, nt, nw⟩))
  | 13, [.agg [.str o, .int .i64 a, .int .i64 b, .str mt, .bool mw, .str nt, .bool nw]] => some (True, .bool (fetchQ ⟨o, a, b, mt, mw, nt, nw⟩))
  | 35, [.agg [.str t, .bool w, .int .i64 mod, .int .i64 len, .int .i64 have_, .int .i64 fresh, .int .i64 while_, .int .i64 err, .lst es, .str ten, .bool keep]] => match unsl es with
    | some ks => some (True, .bool (metaQ ⟨t, w, mod, len, have_, fresh, while_, err, ks, ten, keep⟩))
    | none => none
  | id, vs => tab3 M id vs

theorem tab4_ok : TabOk Try.prog tab4 := by
  intro M id vs g r h hg
  unfold tab4 at h
  split at h <;> (try simp only [Option.some.injEq, Prod.mk.injEq, reduceCtorEq] at h) <;> (try (obtain ⟨rfl, rfl⟩ := h))
  · exact s36 _ _ _ _ _
  · exact s39 _ _ _ _ _
  · exact s10 ⟨_, _, _, _, _, _, _⟩ _
  · exact s12 ⟨_, _, _, _, _, _, _⟩ _
  · exact s13 ⟨_, _, _, _, _, _, _⟩ _
  · split at h <;> (try simp only [Option.some.injEq, Prod.mk.injEq, reduceCtorEq] at h)
    obtain ⟨rfl, rfl⟩ := h
    rename_i hu
    rw [unsl_eq hu]
    exact s35 ⟨_, _, _, _, _, _, _, _, _, _, _⟩ _
  · exact tab3_ok _ _ _ _ _ h hg

theorem s37 (f : FetchD) (r : ReplyD) (M : Heap) : Pure Try.prog 37 [.agg f.c, .agg r.c] M (.bool (bringsQ f r)) := by
  obtain ⟨o, fa, fb, mt, mw, nt, nw⟩ := f
  obtain ⟨st, ⟨t, w, mod, len, have_, fresh, while_, err, keys, ten, keep⟩, a, b, age⟩ := r
  simp only [FetchD.c, ReplyD.c]
  refine Spec.strip (fun _ => false) ok37 (by simp) ?_
  unfold c37
  refine wps_seq_k fun K1 hK1 => wps_regT tab4 tab4_ok ?_; simp only [go_sem, Nat.reduceLeDiff, Nat.reducePow, Nat.reduceSub, Nat.reduceLT, Nat.reduceEqDiff, Nat.reduceAdd, Nat.reduceMul, ↓reduceIte, reduceCtorEq, tab4, tab3, tab2, tab1, tab0, unsl_sl]; (first | (refine hK1 _ ?_; clear hK1 K1) | (refine ⟨?_, hK1 _ ?_⟩ <;> clear hK1 K1; first | (· (simp; done)) | (· (simp +contextual; done)) | (· (simp +contextual; omega)) | (· grind) | skip))
  refine wps_seq_k fun K1 hK1 => wps_regT tab4 tab4_ok ?_; simp only [go_sem, Nat.reduceLeDiff, Nat.reducePow, Nat.reduceSub, Nat.reduceLT, Nat.reduceEqDiff, Nat.reduceAdd, Nat.reduceMul, ↓reduceIte, reduceCtorEq, tab4, tab3, tab2, tab1, tab0, unsl_sl, fi30_2, fi32_1, ti2]; (first | (refine hK1 _ ?_; clear hK1 K1) | (refine ⟨?_, hK1 _ ?_⟩ <;> clear hK1 K1; first | (· (simp; done)) | (· (simp +contextual; done)) | (· (simp +contextual; omega)) | (· grind) | skip))
  refine wps_seq_k fun K2 hK2 => ?_
  refine wps_seq_k fun K1 hK1 => wps_regT tab4 tab4_ok ?_; simp only [go_sem, Nat.reduceLeDiff, Nat.reducePow, Nat.reduceSub, Nat.reduceLT, Nat.reduceEqDiff, Nat.reduceAdd, Nat.reduceMul, ↓reduceIte, reduceCtorEq, tab4, tab3, tab2, tab1, tab0, unsl_sl]; (first | (refine hK1 _ ?_; clear hK1 K1) | (refine ⟨?_, hK1 _ ?_⟩ <;> clear hK1 K1; first | (· (simp; done)) | (· (simp +contextual; done)) | (· (simp +contextual; omega)) | (· grind) | skip))
  refine wps_cond (by simp only [go_sem, Nat.reduceLeDiff, Nat.reducePow, Nat.reduceSub, Nat.reduceLT, Nat.reduceEqDiff, Nat.reduceAdd, Nat.reduceMul, ↓reduceIte, reduceCtorEq, tab4, tab3, tab2, tab1, tab0, unsl_sl]; rfl) (by simp) (fun hb => ?_) (fun hb => ?_)
  · refine wps_regT tab4 tab4_ok ?_; simp only [go_sem, Nat.reduceLeDiff, Nat.reducePow, Nat.reduceSub, Nat.reduceLT, Nat.reduceEqDiff, Nat.reduceAdd, Nat.reduceMul, ↓reduceIte, reduceCtorEq, tab4, tab3, tab2, tab1, tab0, unsl_sl]
    refine hK2 _ ?_; clear hK2 K2
    refine wps_seq_k fun K1 hK1 => wps_regT tab4 tab4_ok ?_; simp only [go_sem, Nat.reduceLeDiff, Nat.reducePow, Nat.reduceSub, Nat.reduceLT, Nat.reduceEqDiff, Nat.reduceAdd, Nat.reduceMul, ↓reduceIte, reduceCtorEq, tab4, tab3, tab2, tab1, tab0, unsl_sl, fi32_2, ti23, zero23]; (first | (refine hK1 _ ?_; clear hK1 K1) | (refine ⟨?_, hK1 _ ?_⟩ <;> clear hK1 K1; first | (· (simp; done)) | (· (simp +contextual; done)) | (· (simp +contextual; omega)) | (· grind) | skip))
    refine wps_seq_k fun K3 hK3 => ?_
    refine wps_seq_k fun K1 hK1 => wps_regT tab4 tab4_ok ?_; simp only [go_sem, Nat.reduceLeDiff, Nat.reducePow, Nat.reduceSub, Nat.reduceLT, Nat.reduceEqDiff, Nat.reduceAdd, Nat.reduceMul, ↓reduceIte, reduceCtorEq, tab4, tab3, tab2, tab1, tab0, unsl_sl, fi32_0, ti3]; (first | (refine hK1 _ ?_; clear hK1 K1) | (refine ⟨?_, hK1 _ ?_⟩ <;> clear hK1 K1; first | (· (simp; done)) | (· (simp +contextual; done)) | (· (simp +contextual; omega)) | (· grind) | skip))
    refine wps_cond (by simp only [go_sem, Nat.reduceLeDiff, Nat.reducePow, Nat.reduceSub, Nat.reduceLT, Nat.reduceEqDiff, Nat.reduceAdd, Nat.reduceMul, ↓reduceIte, reduceCtorEq, tab4, tab3, tab2, tab1, tab0, unsl_sl]; rfl) (by simp) (fun hb => ?_) (fun hb => ?_)
    · refine wps_seq_k fun K1 hK1 => wps_regT tab4 tab4_ok ?_; simp only [go_sem, Nat.reduceLeDiff, Nat.reducePow, Nat.reduceSub, Nat.reduceLT, Nat.reduceEqDiff, Nat.reduceAdd, Nat.reduceMul, ↓reduceIte, reduceCtorEq, tab4, tab3, tab2, tab1, tab0, unsl_sl, bs23, eg23, eq23, fi23_1, ti23, zero23]; (first | (refine hK1 _ ?_; clear hK1 K1) | (refine ⟨?_, hK1 _ ?_⟩ <;> clear hK1 K1; first | (· (simp; done)) | (· (simp +contextual; done)) | (· (simp +contextual; omega)) | (· grind) | skip))
      simp only [wps, endQ, resV, resVs, resV1, go_sem, Nat.reduceLeDiff, Nat.reducePow, Nat.reduceSub, Nat.reduceLT, Nat.reduceEqDiff, Nat.reduceAdd, Nat.reduceMul, ↓reduceIte, reduceCtorEq, tab4, tab3, tab2, tab1, tab0, unsl_sl]
      simp at *; grind [bringsQ, endQ', spanQ]
    · refine hK3 _ ?_; clear hK3 K3
      refine wps_seq_k fun K1 hK1 => wps_regT tab4 tab4_ok ?_; simp only [go_sem, Nat.reduceLeDiff, Nat.reducePow, Nat.reduceSub, Nat.reduceLT, Nat.reduceEqDiff, Nat.reduceAdd, Nat.reduceMul, ↓reduceIte, reduceCtorEq, tab4, tab3, tab2, tab1, tab0, unsl_sl, fi23_0, fi23_1, fi27_1, ti2, ti23]; (first | (refine hK1 _ ?_; clear hK1 K1) | (refine ⟨?_, hK1 _ ?_⟩ <;> clear hK1 K1; first | (· (simp; done)) | (· (simp +contextual; done)) | (· (simp +contextual; omega)) | (· grind) | skip))
      simp only [wps, endQ, resV, resVs, resV1, go_sem, Nat.reduceLeDiff, Nat.reducePow, Nat.reduceSub, Nat.reduceLT, Nat.reduceEqDiff, Nat.reduceAdd, Nat.reduceMul, ↓reduceIte, reduceCtorEq, tab4, tab3, tab2, tab1, tab0, unsl_sl]
      simp at *; grind [bringsQ, endQ', spanQ]
  · refine hK2 _ ?_; clear hK2 K2
    refine wps_seq_k fun K1 hK1 => wps_regT tab4 tab4_ok ?_; simp only [go_sem, Nat.reduceLeDiff, Nat.reducePow, Nat.reduceSub, Nat.reduceLT, Nat.reduceEqDiff, Nat.reduceAdd, Nat.reduceMul, ↓reduceIte, reduceCtorEq, tab4, tab3, tab2, tab1, tab0, unsl_sl, fi32_2, ti23, zero23]; (first | (refine hK1 _ ?_; clear hK1 K1) | (refine ⟨?_, hK1 _ ?_⟩ <;> clear hK1 K1; first | (· (simp; done)) | (· (simp +contextual; done)) | (· (simp +contextual; omega)) | (· grind) | skip))
    refine wps_seq_k fun K4 hK4 => ?_
    refine wps_seq_k fun K1 hK1 => wps_regT tab4 tab4_ok ?_; simp only [go_sem, Nat.reduceLeDiff, Nat.reducePow, Nat.reduceSub, Nat.reduceLT, Nat.reduceEqDiff, Nat.reduceAdd, Nat.reduceMul, ↓reduceIte, reduceCtorEq, tab4, tab3, tab2, tab1, tab0, unsl_sl, fi32_0, ti3]; (first | (refine hK1 _ ?_; clear hK1 K1) | (refine ⟨?_, hK1 _ ?_⟩ <;> clear hK1 K1; first | (· (simp; done)) | (· (simp +contextual; done)) | (· (simp +contextual; omega)) | (· grind) | skip))
    refine wps_cond (by simp only [go_sem, Nat.reduceLeDiff, Nat.reducePow, Nat.reduceSub, Nat.reduceLT, Nat.reduceEqDiff, Nat.reduceAdd, Nat.reduceMul, ↓reduceIte, reduceCtorEq, tab4, tab3, tab2, tab1, tab0, unsl_sl]; rfl) (by simp) (fun hb => ?_) (fun hb => ?_)
    · refine wps_seq_k fun K1 hK1 => wps_regT tab4 tab4_ok ?_; simp only [go_sem, Nat.reduceLeDiff, Nat.reducePow, Nat.reduceSub, Nat.reduceLT, Nat.reduceEqDiff, Nat.reduceAdd, Nat.reduceMul, ↓reduceIte, reduceCtorEq, tab4, tab3, tab2, tab1, tab0, unsl_sl, bs23, eg23, eq23, fi23_1, ti23, zero23]; (first | (refine hK1 _ ?_; clear hK1 K1) | (refine ⟨?_, hK1 _ ?_⟩ <;> clear hK1 K1; first | (· (simp; done)) | (· (simp +contextual; done)) | (· (simp +contextual; omega)) | (· grind) | skip))
      simp only [wps, endQ, resV, resVs, resV1, go_sem, Nat.reduceLeDiff, Nat.reducePow, Nat.reduceSub, Nat.reduceLT, Nat.reduceEqDiff, Nat.reduceAdd, Nat.reduceMul, ↓reduceIte, reduceCtorEq, tab4, tab3, tab2, tab1, tab0, unsl_sl]
      simp at *; grind [bringsQ, endQ', spanQ]
    · refine hK4 _ ?_; clear hK4 K4
      refine wps_seq_k fun K1 hK1 => wps_regT tab4 tab4_ok ?_; simp only [go_sem, Nat.reduceLeDiff, Nat.reducePow, Nat.reduceSub, Nat.reduceLT, Nat.reduceEqDiff, Nat.reduceAdd, Nat.reduceMul, ↓reduceIte, reduceCtorEq, tab4, tab3, tab2, tab1, tab0, unsl_sl, fi23_0, fi23_1, fi27_1, ti2, ti23]; (first | (refine hK1 _ ?_; clear hK1 K1) | (refine ⟨?_, hK1 _ ?_⟩ <;> clear hK1 K1; first | (· (simp; done)) | (· (simp +contextual; done)) | (· (simp +contextual; omega)) | (· grind) | skip))
      simp only [wps, endQ, resV, resVs, resV1, go_sem, Nat.reduceLeDiff, Nat.reducePow, Nat.reduceSub, Nat.reduceLT, Nat.reduceEqDiff, Nat.reduceAdd, Nat.reduceMul, ↓reduceIte, reduceCtorEq, tab4, tab3, tab2, tab1, tab0, unsl_sl]
      simp at *; grind [bringsQ, endQ', spanQ]
theorem s38 (f : FetchD) (r : ReplyD) (M : Heap) : Pure Try.prog 38 [.agg f.c, .agg r.c] M (.bool (freshQ f r)) := by
  obtain ⟨o, fa, fb, mt, mw, nt, nw⟩ := f
  obtain ⟨st, ⟨t, w, mod, len, have_, fresh, while_, err, keys, ten, keep⟩, a, b, age⟩ := r
  simp only [FetchD.c, ReplyD.c]
  refine Spec.strip (fun _ => false) ok38 (by simp) ?_
  unfold c38
  refine wps_seq_k fun K1 hK1 => wps_regT tab4 tab4_ok ?_; simp only [go_sem, Nat.reduceLeDiff, Nat.reducePow, Nat.reduceSub, Nat.reduceLT, Nat.reduceEqDiff, Nat.reduceAdd, Nat.reduceMul, ↓reduceIte, reduceCtorEq, tab4, tab3, tab2, tab1, tab0, unsl_sl]; (first | (refine hK1 _ ?_; clear hK1 K1) | (refine ⟨?_, hK1 _ ?_⟩ <;> clear hK1 K1; first | (· (simp; done)) | (· (simp +contextual; done)) | (· (simp +contextual; omega)) | (· grind) | skip))
  refine wps_seq_k fun K2 hK2 => ?_
  refine wps_seq_k fun K1 hK1 => wps_regT tab4 tab4_ok ?_; simp only [go_sem, Nat.reduceLeDiff, Nat.reducePow, Nat.reduceSub, Nat.reduceLT, Nat.reduceEqDiff, Nat.reduceAdd, Nat.reduceMul, ↓reduceIte, reduceCtorEq, tab4, tab3, tab2, tab1, tab0, unsl_sl, fi27_2, fi30_0, fi32_1, ti25, ti30]; (first | (refine hK1 _ ?_; clear hK1 K1) | (refine ⟨?_, hK1 _ ?_⟩ <;> clear hK1 K1; first | (· (simp; done)) | (· (simp +contextual; done)) | (· (simp +contextual; omega)) | (· grind) | skip))
  refine wps_cond (by simp only [go_sem, Nat.reduceLeDiff, Nat.reducePow, Nat.reduceSub, Nat.reduceLT, Nat.reduceEqDiff, Nat.reduceAdd, Nat.reduceMul, ↓reduceIte, reduceCtorEq, tab4, tab3, tab2, tab1, tab0, unsl_sl]; rfl) (by simp) (fun hb => ?_) (fun hb => ?_)
  · refine wps_seq_k fun K1 hK1 => wps_regT tab4 tab4_ok ?_; simp only [go_sem, Nat.reduceLeDiff, Nat.reducePow, Nat.reduceSub, Nat.reduceLT, Nat.reduceEqDiff, Nat.reduceAdd, Nat.reduceMul, ↓reduceIte, reduceCtorEq, tab4, tab3, tab2, tab1, tab0, unsl_sl]; (first | (refine hK1 _ ?_; clear hK1 K1) | (refine ⟨?_, hK1 _ ?_⟩ <;> clear hK1 K1; first | (· (simp; done)) | (· (simp +contextual; done)) | (· (simp +contextual; omega)) | (· grind) | skip))
    simp only [wps, endQ, resV, resVs, resV1, go_sem, Nat.reduceLeDiff, Nat.reducePow, Nat.reduceSub, Nat.reduceLT, Nat.reduceEqDiff, Nat.reduceAdd, Nat.reduceMul, ↓reduceIte, reduceCtorEq, tab4, tab3, tab2, tab1, tab0, unsl_sl]
    simp at *; grind [freshQ, bringsQ, endQ', spanQ]
  · refine hK2 _ ?_; clear hK2 K2
    refine wps_seq_k fun K1 hK1 => wps_regT tab4 tab4_ok ?_; simp only [go_sem, Nat.reduceLeDiff, Nat.reducePow, Nat.reduceSub, Nat.reduceLT, Nat.reduceEqDiff, Nat.reduceAdd, Nat.reduceMul, ↓reduceIte, reduceCtorEq, tab4, tab3, tab2, tab1, tab0, unsl_sl, fi32_2, ti23, zero23]; (first | (refine hK1 _ ?_; clear hK1 K1) | (refine ⟨?_, hK1 _ ?_⟩ <;> clear hK1 K1; first | (· (simp; done)) | (· (simp +contextual; done)) | (· (simp +contextual; omega)) | (· grind) | skip))
    refine wps_seq_k fun K3 hK3 => ?_
    refine wps_seq_k fun K1 hK1 => wps_regT tab4 tab4_ok ?_; simp only [go_sem, Nat.reduceLeDiff, Nat.reducePow, Nat.reduceSub, Nat.reduceLT, Nat.reduceEqDiff, Nat.reduceAdd, Nat.reduceMul, ↓reduceIte, reduceCtorEq, tab4, tab3, tab2, tab1, tab0, unsl_sl, fi32_0, ti3]; (first | (refine hK1 _ ?_; clear hK1 K1) | (refine ⟨?_, hK1 _ ?_⟩ <;> clear hK1 K1; first | (· (simp; done)) | (· (simp +contextual; done)) | (· (simp +contextual; omega)) | (· grind) | skip))
    refine wps_cond (by simp only [go_sem, Nat.reduceLeDiff, Nat.reducePow, Nat.reduceSub, Nat.reduceLT, Nat.reduceEqDiff, Nat.reduceAdd, Nat.reduceMul, ↓reduceIte, reduceCtorEq, tab4, tab3, tab2, tab1, tab0, unsl_sl]; rfl) (by simp) (fun hb => ?_) (fun hb => ?_)
    · refine wps_seq_k fun K4 hK4 => ?_
      refine wps_seq_k fun K1 hK1 => wps_regT tab4 tab4_ok ?_; simp only [go_sem, Nat.reduceLeDiff, Nat.reducePow, Nat.reduceSub, Nat.reduceLT, Nat.reduceEqDiff, Nat.reduceAdd, Nat.reduceMul, ↓reduceIte, reduceCtorEq, tab4, tab3, tab2, tab1, tab0, unsl_sl, fi30_2, fi32_1, ti2]; (first | (refine hK1 _ ?_; clear hK1 K1) | (refine ⟨?_, hK1 _ ?_⟩ <;> clear hK1 K1; first | (· (simp; done)) | (· (simp +contextual; done)) | (· (simp +contextual; omega)) | (· grind) | skip))
      refine wps_cond (by simp only [go_sem, Nat.reduceLeDiff, Nat.reducePow, Nat.reduceSub, Nat.reduceLT, Nat.reduceEqDiff, Nat.reduceAdd, Nat.reduceMul, ↓reduceIte, reduceCtorEq, tab4, tab3, tab2, tab1, tab0, unsl_sl]; rfl) (by simp) (fun hb => ?_) (fun hb => ?_)
      · refine wps_seq_k fun K1 hK1 => wps_regT tab4 tab4_ok ?_; simp only [go_sem, Nat.reduceLeDiff, Nat.reducePow, Nat.reduceSub, Nat.reduceLT, Nat.reduceEqDiff, Nat.reduceAdd, Nat.reduceMul, ↓reduceIte, reduceCtorEq, tab4, tab3, tab2, tab1, tab0, unsl_sl, fi23_0, fi23_1, ti2]; (first | (refine hK1 _ ?_; clear hK1 K1) | (refine ⟨?_, hK1 _ ?_⟩ <;> clear hK1 K1; first | (· (simp; done)) | (· (simp +contextual; done)) | (· (simp +contextual; omega)) | (· grind) | skip))
        simp only [wps, endQ, resV, resVs, resV1, go_sem, Nat.reduceLeDiff, Nat.reducePow, Nat.reduceSub, Nat.reduceLT, Nat.reduceEqDiff, Nat.reduceAdd, Nat.reduceMul, ↓reduceIte, reduceCtorEq, tab4, tab3, tab2, tab1, tab0, unsl_sl]
        simp at *; grind [freshQ, bringsQ, endQ', spanQ]
      · refine hK4 _ ?_; clear hK4 K4
        refine wps_seq_k fun K1 hK1 => wps_regT tab4 tab4_ok ?_; simp only [go_sem, Nat.reduceLeDiff, Nat.reducePow, Nat.reduceSub, Nat.reduceLT, Nat.reduceEqDiff, Nat.reduceAdd, Nat.reduceMul, ↓reduceIte, reduceCtorEq, tab4, tab3, tab2, tab1, tab0, unsl_sl, fi23_0, fi23_1, fi30_2, fi32_1, ti2]; (first | (refine hK1 _ ?_; clear hK1 K1) | (refine ⟨?_, hK1 _ ?_⟩ <;> clear hK1 K1; first | (· (simp; done)) | (· (simp +contextual; done)) | (· (simp +contextual; omega)) | (· grind) | skip))
        simp only [wps, endQ, resV, resVs, resV1, go_sem, Nat.reduceLeDiff, Nat.reducePow, Nat.reduceSub, Nat.reduceLT, Nat.reduceEqDiff, Nat.reduceAdd, Nat.reduceMul, ↓reduceIte, reduceCtorEq, tab4, tab3, tab2, tab1, tab0, unsl_sl]
        simp at *; grind [freshQ, bringsQ, endQ', spanQ]
    · refine hK3 _ ?_; clear hK3 K3
      refine wps_seq_k fun K5 hK5 => ?_
      refine wps_seq_k fun K1 hK1 => wps_regT tab4 tab4_ok ?_; simp only [go_sem, Nat.reduceLeDiff, Nat.reducePow, Nat.reduceSub, Nat.reduceLT, Nat.reduceEqDiff, Nat.reduceAdd, Nat.reduceMul, ↓reduceIte, reduceCtorEq, tab4, tab3, tab2, tab1, tab0, unsl_sl, fi23_0, fi23_1, fi27_1, ti2, ti23]; (first | (refine hK1 _ ?_; clear hK1 K1) | (refine ⟨?_, hK1 _ ?_⟩ <;> clear hK1 K1; first | (· (simp; done)) | (· (simp +contextual; done)) | (· (simp +contextual; omega)) | (· grind) | skip))
      refine wps_cond (by simp only [go_sem, Nat.reduceLeDiff, Nat.reducePow, Nat.reduceSub, Nat.reduceLT, Nat.reduceEqDiff, Nat.reduceAdd, Nat.reduceMul, ↓reduceIte, reduceCtorEq, tab4, tab3, tab2, tab1, tab0, unsl_sl]; rfl) (by simp) (fun hb => ?_) (fun hb => ?_)
      · refine wps_seq_k fun K1 hK1 => wps_regT tab4 tab4_ok ?_; simp only [go_sem, Nat.reduceLeDiff, Nat.reducePow, Nat.reduceSub, Nat.reduceLT, Nat.reduceEqDiff, Nat.reduceAdd, Nat.reduceMul, ↓reduceIte, reduceCtorEq, tab4, tab3, tab2, tab1, tab0, unsl_sl]; (first | (refine hK1 _ ?_; clear hK1 K1) | (refine ⟨?_, hK1 _ ?_⟩ <;> clear hK1 K1; first | (· (simp; done)) | (· (simp +contextual; done)) | (· (simp +contextual; omega)) | (· grind) | skip))
        simp only [wps, endQ, resV, resVs, resV1, go_sem, Nat.reduceLeDiff, Nat.reducePow, Nat.reduceSub, Nat.reduceLT, Nat.reduceEqDiff, Nat.reduceAdd, Nat.reduceMul, ↓reduceIte, reduceCtorEq, tab4, tab3, tab2, tab1, tab0, unsl_sl]
        simp at *; grind [freshQ, bringsQ, endQ', spanQ]
      · refine hK5 _ ?_; clear hK5 K5
        refine wps_seq_k fun K1 hK1 => wps_regT tab4 tab4_ok ?_; simp only [go_sem, Nat.reduceLeDiff, Nat.reducePow, Nat.reduceSub, Nat.reduceLT, Nat.reduceEqDiff, Nat.reduceAdd, Nat.reduceMul, ↓reduceIte, reduceCtorEq, tab4, tab3, tab2, tab1, tab0, unsl_sl, fi23_1, fi30_2, fi32_1, ti2]; (first | (refine hK1 _ ?_; clear hK1 K1) | (refine ⟨?_, hK1 _ ?_⟩ <;> clear hK1 K1; first | (· (simp; done)) | (· (simp +contextual; done)) | (· (simp +contextual; omega)) | (· grind) | skip))
        simp only [wps, endQ, resV, resVs, resV1, go_sem, Nat.reduceLeDiff, Nat.reducePow, Nat.reduceSub, Nat.reduceLT, Nat.reduceEqDiff, Nat.reduceAdd, Nat.reduceMul, ↓reduceIte, reduceCtorEq, tab4, tab3, tab2, tab1, tab0, unsl_sl]
        simp at *; grind [freshQ, bringsQ, endQ', spanQ]
end Go.Eng.Try
