/- Contracts: a fetch's steps. -/
import Derived.Test.YtndjoblgphalhaaT10
namespace Go.Eng.Try
open Go.Proofs
attribute [local go_sem] oss_nil_eq Int.toNat_natCast maxLen Nat.zero_le run step opv slotV opvs dstLt evalQ constV isA setD upd_app guardB List.getD_cons_zero List.getD_cons_succ List.getD_nil V.tag V.cells decide_true decide_false Bool.false_eq_true if_false if_true ne_eq Nat.one_ne_zero not_false_eq_true keyKind cellOk List.forall_mem_cons List.not_mem_nil false_implies true_and and_true implies_true forall_const bump addrAdd loadA loadV part opV binV eqlV eqOk pickV unV convV boundV fillV storeTo splice List.getElem?_cons_zero List.getElem?_cons_succ List.take_succ_cons List.take_zero List.drop_succ_cons List.drop_zero List.length_cons List.length_nil List.cons_append List.nil_append List.append_nil List.getElem_toArray List.getElem?_toArray List.size_toArray and_self eqV_tupl eqV_tupr fbt tbf beq_self_eq_true Bool.not_false Bool.not_true cond_true cond_false newVarW updH_self updH_updH isFuncFn runT stepT stepC isCallV callOf callV escL memN runW stepW stepCW runD stepD safeB slots ownS stepOwn reads runM stepM emptyH
set_option linter.unusedSimpArgs false
set_option linter.unusedVariables false

def tab7 : Tab := fun M id vs => match id, vs with
  | 41, [.ptr o 0, .int .i64 n] => match M o with
    | some (.cells [.str _, .int .i64 _, .int .i64 _, .str _, .bool _, .str _, .bool _, .int .i64 s, .int .i64 _, .int .i64 _]) => some (True, .bool (decide (s = n)))
    | _ => none
  | 41, [.nilp, .int .i64 _] => some (True, .bool false)
  | 26, [.ptr o 0] => match M o with
    | some (.cells [.str _, .int .i64 _, .int .i64 _, .str _, .bool _, .str _, .bool _, .int .i64 s, .int .i64 _, .int .i64 _]) => some (True, .bool (decide (s = 2)))
    | _ => none
  | 26, [.nilp] => some (True, .bool true)
  | id, vs => tab6 M id vs

theorem tab7_ok : TabOk Try.prog tab7 := by
  intro M id vs g r h hg
  unfold tab7 at h
  split at h <;> (try simp only [Option.some.injEq, Prod.mk.injEq, reduceCtorEq] at h) <;> (try (obtain ⟨rfl, rfl⟩ := h))
  · split at h <;> (try simp only [Option.some.injEq, Prod.mk.injEq, reduceCtorEq] at h)
    obtain ⟨rfl, rfl⟩ := h
    exact s41 _ ⟨⟨_, _, _, _, _, _, _⟩, _, _, _⟩ _ _ (by assumption)
  · exact s41n _ _
  · split at h <;> (try simp only [Option.some.injEq, Prod.mk.injEq, reduceCtorEq] at h)
    obtain ⟨rfl, rfl⟩ := h
    exact s26 _ ⟨⟨_, _, _, _, _, _, _⟩, _, _, _⟩ _ (by assumption)
  · exact s26n _
  · exact tab6_ok _ _ _ _ _ h hg

theorem s18 (o : Nat) (x : FS) (r : ReplyD) (M : Heap) (hm : M o = some (.cells x.c)) : Spec Try.prog 18 [.ptr o 0, .agg r.c] M fun v M' => v = .tup [.int .i64 (replyF x r).2.1, .int .i64 (replyF x r).2.2] ∧ M' = updH M o (.cells (replyF x r).1.c) := by
  obtain ⟨⟨fo, fa, fb, mt, mw, nt, nw⟩, xs, xa, xb⟩ := x
  obtain ⟨st, ⟨t, w, mod, len, have_, fresh, while_, err, keys, ten, keep⟩, a, b, age⟩ := r
  refine Spec.strip (fun _ => false) ok18 (by simp) ?_
  unfold c18
  simp only [FS.c, ReplyD.c] at hm ⊢
  refine wps_seq_k fun K1 hK1 => wps_regT tab7 tab7_ok ?_; simp only [go_sem, Nat.reduceLeDiff, Nat.reducePow, Nat.reduceSub, Nat.reduceLT, Nat.reduceEqDiff, Nat.reduceAdd, Nat.reduceMul, ↓reduceIte, reduceCtorEq, tab7, tab6, tab5, tab4, tab3, tab2, tab1, tab0, unsl_sl]; (first | (refine hK1 _ ?_; clear hK1 K1) | (refine ⟨?_, hK1 _ ?_⟩ <;> clear hK1 K1; first | (· (simp; done)) | (· (simp +contextual; done)) | (· (simp +contextual; omega)) | (· grind) | skip))
  refine wps_seq_k fun K2 hK2 => ?_
  refine wps_seq_k fun K1 hK1 => wps_regT tab7 tab7_ok ?_; simp only [go_sem, Nat.reduceLeDiff, Nat.reducePow, Nat.reduceSub, Nat.reduceLT, Nat.reduceEqDiff, Nat.reduceAdd, Nat.reduceMul, ↓reduceIte, reduceCtorEq, tab7, tab6, tab5, tab4, tab3, tab2, tab1, tab0, unsl_sl, und3, und41, hm]; (first | (refine hK1 _ ?_; clear hK1 K1) | (refine ⟨?_, hK1 _ ?_⟩ <;> clear hK1 K1; first | (· (simp; done)) | (· (simp +contextual; done)) | (· (simp +contextual; omega)) | (· grind) | skip))
  refine wps_cond (by simp only [go_sem, Nat.reduceLeDiff, Nat.reducePow, Nat.reduceSub, Nat.reduceLT, Nat.reduceEqDiff, Nat.reduceAdd, Nat.reduceMul, ↓reduceIte, reduceCtorEq, tab7, tab6, tab5, tab4, tab3, tab2, tab1, tab0, unsl_sl]; rfl) (by simp) (fun hb => ?_) (fun hb => ?_)
  · refine wps_seq_k fun K1 hK1 => wps_regT tab7 tab7_ok ?_; simp only [go_sem, Nat.reduceLeDiff, Nat.reducePow, Nat.reduceSub, Nat.reduceLT, Nat.reduceEqDiff, Nat.reduceAdd, Nat.reduceMul, ↓reduceIte, reduceCtorEq, tab7, tab6, tab5, tab4, tab3, tab2, tab1, tab0, unsl_sl]; (first | (refine hK1 _ ?_; clear hK1 K1) | (refine ⟨?_, hK1 _ ?_⟩ <;> clear hK1 K1; first | (· (simp; done)) | (· (simp +contextual; done)) | (· (simp +contextual; omega)) | (· grind) | skip))
    simp only [wps, endQ, resV, resVs, resV1, go_sem, Nat.reduceLeDiff, Nat.reducePow, Nat.reduceSub, Nat.reduceLT, Nat.reduceEqDiff, Nat.reduceAdd, Nat.reduceMul, ↓reduceIte, reduceCtorEq, tab7, tab6, tab5, tab4, tab3, tab2, tab1, tab0, unsl_sl]
    simp at hb
    simp [replyF, hb, updH_same hm]
  · refine hK2 _ ?_; clear hK2 K2
    refine wps_seq_k fun K1 hK1 => wps_drawD tab7 tab7_ok (by kernel_rfl) rfl (by kernel_rfl) (by simp only [go_sem, Nat.reduceLeDiff, Nat.reducePow, Nat.reduceSub, Nat.reduceLT, Nat.reduceEqDiff, Nat.reduceAdd, Nat.reduceMul, ↓reduceIte, reduceCtorEq, tab7, tab6, tab5, tab4, tab3, tab2, tab1, tab0, unsl_sl, fi74_0, ti27, ti32, hm]; rfl) ?_; (first | (refine hK1 _ ?_; clear hK1 K1) | (refine ⟨?_, hK1 _ ?_⟩ <;> clear hK1 K1; first | (· (simp; done)) | (· (simp +contextual; done)) | (· (simp +contextual; omega)) | (· grind) | skip))
    refine wps_seq_k fun K1 hK1 => wps_regT tab7 tab7_ok ?_; simp only [go_sem, Nat.reduceLeDiff, Nat.reducePow, Nat.reduceSub, Nat.reduceLT, Nat.reduceEqDiff, Nat.reduceAdd, Nat.reduceMul, ↓reduceIte, reduceCtorEq, tab7, tab6, tab5, tab4, tab3, tab2, tab1, tab0, unsl_sl, fi74_1, ti3, hm]; (first | (refine hK1 _ ?_; clear hK1 K1) | (refine ⟨?_, hK1 _ ?_⟩ <;> clear hK1 K1; first | (· (simp; done)) | (· (simp +contextual; done)) | (· (simp +contextual; omega)) | (· grind) | skip))
    refine wps_seq_k fun K3 hK3 => ?_
    refine wps_seq_k fun K1 hK1 => wps_regT tab7 tab7_ok ?_; simp only [go_sem, Nat.reduceLeDiff, Nat.reducePow, Nat.reduceSub, Nat.reduceLT, Nat.reduceEqDiff, Nat.reduceAdd, Nat.reduceMul, ↓reduceIte, reduceCtorEq, tab7, tab6, tab5, tab4, tab3, tab2, tab1, tab0, unsl_sl]; (first | (refine hK1 _ ?_; clear hK1 K1) | (refine ⟨?_, hK1 _ ?_⟩ <;> clear hK1 K1; first | (· (simp; done)) | (· (simp +contextual; done)) | (· (simp +contextual; omega)) | (· grind) | skip))
    have hb1 := hb; clear hb
    simp at hb1
    refine wps_cond (by simp only [go_sem, Nat.reduceLeDiff, Nat.reducePow, Nat.reduceSub, Nat.reduceLT, Nat.reduceEqDiff, Nat.reduceAdd, Nat.reduceMul, ↓reduceIte, reduceCtorEq, tab7, tab6, tab5, tab4, tab3, tab2, tab1, tab0, unsl_sl]; rfl) (by simp) (fun hb => ?_) (fun hb => ?_)
    · refine wps_drawM tab7 noW [] tab7_ok noW_ok (by kernel_rfl) rfl (by kernel_rfl) (by kernel_rfl) (by simp only [noW, go_sem, Nat.reduceLeDiff, Nat.reducePow, Nat.reduceSub, Nat.reduceLT, Nat.reduceEqDiff, Nat.reduceAdd, Nat.reduceMul, ↓reduceIte, reduceCtorEq, tab7, tab6, tab5, tab4, tab3, tab2, tab1, tab0, unsl_sl, fi32_2, fi74_1, fi74_2, ti23, ti3]; rfl) ?_; (refine ⟨?_, ?_⟩; first | (· (simp; done)) | (· (simp +contextual; done)) | (· grind) | skip)
      refine hK3 _ ?_; clear hK3 K3
      refine wps_seq_k fun K1 hK1 => wps_regT tab7 tab7_ok ?_; simp only [go_sem, Nat.reduceLeDiff, Nat.reducePow, Nat.reduceSub, Nat.reduceLT, Nat.reduceEqDiff, Nat.reduceAdd, Nat.reduceMul, ↓reduceIte, reduceCtorEq, tab7, tab6, tab5, tab4, tab3, tab2, tab1, tab0, unsl_sl]; (first | (refine hK1 _ ?_; clear hK1 K1) | (refine ⟨?_, hK1 _ ?_⟩ <;> clear hK1 K1; first | (· (simp; done)) | (· (simp +contextual; done)) | (· (simp +contextual; omega)) | (· grind) | skip))
      simp only [wps, endQ, resV, resVs, resV1, go_sem, Nat.reduceLeDiff, Nat.reducePow, Nat.reduceSub, Nat.reduceLT, Nat.reduceEqDiff, Nat.reduceAdd, Nat.reduceMul, ↓reduceIte, reduceCtorEq, tab7, tab6, tab5, tab4, tab3, tab2, tab1, tab0, unsl_sl]
      simp only [beq_iff_eq] at hb
      simp [replyF, hb1, hb]
    · refine hK3 _ ?_; clear hK3 K3
      refine wps_seq_k fun K1 hK1 => wps_regT tab7 tab7_ok ?_; simp only [go_sem, Nat.reduceLeDiff, Nat.reducePow, Nat.reduceSub, Nat.reduceLT, Nat.reduceEqDiff, Nat.reduceAdd, Nat.reduceMul, ↓reduceIte, reduceCtorEq, tab7, tab6, tab5, tab4, tab3, tab2, tab1, tab0, unsl_sl]; (first | (refine hK1 _ ?_; clear hK1 K1) | (refine ⟨?_, hK1 _ ?_⟩ <;> clear hK1 K1; first | (· (simp; done)) | (· (simp +contextual; done)) | (· (simp +contextual; omega)) | (· grind) | skip))
      simp only [wps, endQ, resV, resVs, resV1, go_sem, Nat.reduceLeDiff, Nat.reducePow, Nat.reduceSub, Nat.reduceLT, Nat.reduceEqDiff, Nat.reduceAdd, Nat.reduceMul, ↓reduceIte, reduceCtorEq, tab7, tab6, tab5, tab4, tab3, tab2, tab1, tab0, unsl_sl]
      simp only [beq_eq_false_iff_ne, ne_eq] at hb
      simp [replyF, hb1, hb]
end Go.Eng.Try
