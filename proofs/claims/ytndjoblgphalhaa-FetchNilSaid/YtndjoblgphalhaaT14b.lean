/- The laws without loops. -/
import Derived.Test.YtndjoblgphalhaaT14
namespace Go.Eng.Try
open Go.Proofs
attribute [local go_sem] oss_nil_eq Int.toNat_natCast maxLen Nat.zero_le run step opv slotV opvs dstLt evalQ constV isA setD upd_app guardB List.getD_cons_zero List.getD_cons_succ List.getD_nil V.tag V.cells decide_true decide_false Bool.false_eq_true if_false if_true ne_eq Nat.one_ne_zero not_false_eq_true keyKind cellOk List.forall_mem_cons List.not_mem_nil false_implies true_and and_true implies_true forall_const bump addrAdd loadA loadV part opV binV eqlV eqOk pickV unV convV boundV fillV storeTo splice List.getElem?_cons_zero List.getElem?_cons_succ List.take_succ_cons List.take_zero List.drop_succ_cons List.drop_zero List.length_cons List.length_nil List.cons_append List.nil_append List.append_nil List.getElem_toArray List.getElem?_toArray List.size_toArray and_self eqV_tupl eqV_tupr fbt tbf beq_self_eq_true Bool.not_false Bool.not_true cond_true cond_false newVarW updH_self updH_updH isFuncFn runT stepT stepC isCallV callOf callV escL memN runW stepW stepCW runD stepD safeB slots ownS stepOwn reads runM stepM emptyH
set_option linter.unusedSimpArgs false
set_option linter.unusedVariables false

theorem s3 (f : FetchD) (r : ReplyD) (M : Heap) : Pure Try.prog 3 [.agg f.c, .agg r.c] M (.bool true) := by
  obtain ⟨o, fa, fb, mt, mw, nt, nw⟩ := f
  obtain ⟨st, ⟨t, w, mod, len, have_, fresh, while_, err, keys, ten, keep⟩, a, b, age⟩ := r
  simp only [FetchD.c, ReplyD.c]
  refine Spec.strip (fun _ => false) ok3 (by simp) ?_
  unfold c3
  refine wps_seq_k fun K1 hK1 => wps_regW tab10 wtab8 tab10_ok wtab8_ok ?_; simp only [go_sem, Nat.reduceLeDiff, Nat.reducePow, Nat.reduceSub, Nat.reduceLT, Nat.reduceEqDiff, Nat.reduceAdd, Nat.reduceMul, ↓reduceIte, reduceCtorEq, tab10, t9, tab9, tab8, tab7, tab6, tab5, tab4, tab3, tab2, tab1, tab0, unsl_sl, unsl_nil, t11, t27, t17, t18, t19, t20, t21, t22, t23, t24, t25, deFS_c, deReply_c, deReply_n, deFetch_c, deObj_c, wtab8, w18, w20, w22]; (first | (refine hK1 _ ?_; clear hK1 K1) | (refine ⟨?_, hK1 _ ?_⟩ <;> clear hK1 K1; first | (· (simp; done)) | (· (simp +contextual; done)) | (· (simp +contextual; omega)) | (· grind) | skip))
  refine wps_seq_k fun K2 hK2 => ?_
  refine wps_seq_k fun K1 hK1 => wps_regW tab10 wtab8 tab10_ok wtab8_ok ?_; simp only [go_sem, Nat.reduceLeDiff, Nat.reducePow, Nat.reduceSub, Nat.reduceLT, Nat.reduceEqDiff, Nat.reduceAdd, Nat.reduceMul, ↓reduceIte, reduceCtorEq, tab10, t9, tab9, tab8, tab7, tab6, tab5, tab4, tab3, tab2, tab1, tab0, unsl_sl, unsl_nil, t11, t27, t17, t18, t19, t20, t21, t22, t23, t24, t25, deFS_c, deReply_c, deReply_n, deFetch_c, deObj_c, wtab8, w18, w20, w22]; (first | (refine hK1 _ ?_; clear hK1 K1) | (refine ⟨?_, hK1 _ ?_⟩ <;> clear hK1 K1; first | (· (simp; done)) | (· (simp +contextual; done)) | (· (simp +contextual; omega)) | (· grind) | skip))
  refine wps_cond (by simp only [go_sem, Nat.reduceLeDiff, Nat.reducePow, Nat.reduceSub, Nat.reduceLT, Nat.reduceEqDiff, Nat.reduceAdd, Nat.reduceMul, ↓reduceIte, reduceCtorEq, tab10, t9, tab9, tab8, tab7, tab6, tab5, tab4, tab3, tab2, tab1, tab0, unsl_sl, unsl_nil, t11, t27, t17, t18, t19, t20, t21, t22, t23, t24, t25, deFS_c, deReply_c, deReply_n, deFetch_c, deObj_c, wtab8, w18, w20, w22]; rfl) (by simp) (fun hb => ?_) (fun hb => ?_)
  · exact absurd hb (by decide)
  · refine hK2 _ ?_; clear hK2 K2
    refine wps_seq_k fun K3 hK3 => ?_
    refine wps_seq_k fun K1 hK1 => wps_regW tab10 wtab8 tab10_ok wtab8_ok ?_; simp only [go_sem, Nat.reduceLeDiff, Nat.reducePow, Nat.reduceSub, Nat.reduceLT, Nat.reduceEqDiff, Nat.reduceAdd, Nat.reduceMul, ↓reduceIte, reduceCtorEq, tab10, t9, tab9, tab8, tab7, tab6, tab5, tab4, tab3, tab2, tab1, tab0, unsl_sl, unsl_nil, t11, t27, t17, t18, t19, t20, t21, t22, t23, t24, t25, deFS_c, deReply_c, deReply_n, deFetch_c, deObj_c, wtab8, w18, w20, w22, ti27, ti32]; (first | (refine hK1 _ ?_; clear hK1 K1) | (refine ⟨?_, hK1 _ ?_⟩ <;> clear hK1 K1; first | (· (simp; done)) | (· (simp +contextual; done)) | (· (simp +contextual; omega)) | (· grind) | skip))
    refine wps_cond (by simp only [go_sem, Nat.reduceLeDiff, Nat.reducePow, Nat.reduceSub, Nat.reduceLT, Nat.reduceEqDiff, Nat.reduceAdd, Nat.reduceMul, ↓reduceIte, reduceCtorEq, tab10, t9, tab9, tab8, tab7, tab6, tab5, tab4, tab3, tab2, tab1, tab0, unsl_sl, unsl_nil, t11, t27, t17, t18, t19, t20, t21, t22, t23, t24, t25, deFS_c, deReply_c, deReply_n, deFetch_c, deObj_c, wtab8, w18, w20, w22]; rfl) (by simp) (fun hb => ?_) (fun hb => ?_)
    · refine wps_seq_k fun K1 hK1 => wps_regW tab10 wtab8 tab10_ok wtab8_ok ?_; simp only [go_sem, Nat.reduceLeDiff, Nat.reducePow, Nat.reduceSub, Nat.reduceLT, Nat.reduceEqDiff, Nat.reduceAdd, Nat.reduceMul, ↓reduceIte, reduceCtorEq, tab10, t9, tab9, tab8, tab7, tab6, tab5, tab4, tab3, tab2, tab1, tab0, unsl_sl, unsl_nil, t11, t27, t17, t18, t19, t20, t21, t22, t23, t24, t25, deFS_c, deReply_c, deReply_n, deFetch_c, deObj_c, wtab8, w18, w20, w22]; (first | (refine hK1 _ ?_; clear hK1 K1) | (refine ⟨?_, hK1 _ ?_⟩ <;> clear hK1 K1; first | (· (simp; done)) | (· (simp +contextual; done)) | (· (simp +contextual; omega)) | (· grind) | skip))
      simp only [wps, endQ, resV, resVs, resV1, go_sem, Nat.reduceLeDiff, Nat.reducePow, Nat.reduceSub, Nat.reduceLT, Nat.reduceEqDiff, Nat.reduceAdd, Nat.reduceMul, ↓reduceIte, reduceCtorEq, tab10, t9, tab9, tab8, tab7, tab6, tab5, tab4, tab3, tab2, tab1, tab0, unsl_sl, unsl_nil, t11, t27, t17, t18, t19, t20, t21, t22, t23, t24, t25, deFS_c, deReply_c, deReply_n, deFetch_c, deObj_c, wtab8, w18, w20, w22]
    · refine hK3 _ ?_; clear hK3 K3
      refine wps_seq_k fun K1 hK1 => wps_drawD tab10 tab10_ok (by kernel_rfl) rfl (by kernel_rfl) (by simp only [go_sem, Nat.reduceLeDiff, Nat.reducePow, Nat.reduceSub, Nat.reduceLT, Nat.reduceEqDiff, Nat.reduceAdd, Nat.reduceMul, ↓reduceIte, reduceCtorEq, tab10, t9, tab9, tab8, tab7, tab6, tab5, tab4, tab3, tab2, tab1, tab0, unsl_sl, unsl_nil, t11, t27, t17, t18, t19, t20, t21, t22, t23, t24, t25, deFS_c, deReply_c, deReply_n, deFetch_c, deObj_c, wtab8, w18, w20, w22, eq4, ti27, ti32]; rfl) ?_; (first | (refine hK1 _ ?_; clear hK1 K1) | (refine ⟨?_, hK1 _ ?_⟩ <;> clear hK1 K1; first | (· (simp; done)) | (· (simp +contextual; done)) | (· (simp +contextual; omega)) | (· grind) | skip))
      simp only [wps, endQ, resV, resVs, resV1, go_sem, Nat.reduceLeDiff, Nat.reducePow, Nat.reduceSub, Nat.reduceLT, Nat.reduceEqDiff, Nat.reduceAdd, Nat.reduceMul, ↓reduceIte, reduceCtorEq, tab10, t9, tab9, tab8, tab7, tab6, tab5, tab4, tab3, tab2, tab1, tab0, unsl_sl, unsl_nil, t11, t27, t17, t18, t19, t20, t21, t22, t23, t24, t25, deFS_c, deReply_c, deReply_n, deFetch_c, deObj_c, wtab8, w18, w20, w22]

theorem read_new {f : FetchD} {r : ReplyD} (h : readQ f r = 1) : (r.st = 200 ∨ r.st = 206) ∧ metaQ r.m = true ∧ (tagNone f.mt f.mw || strongEq f.mt f.mw r.m.t r.m.w) = true ∧ bringsQ f r = true ∧ fetchQ f = true := by
  unfold readQ at h
  split at h
  · cases h
  · rename_i h0
    simp only [Bool.or_eq_true, not_or, Bool.not_eq_true', Bool.not_eq_false] at h0
    split at h
    · rename_i hst
      split at h
      · rename_i hf
        simp only [freshQ, Bool.and_eq_true] at hf
        exact ⟨hst, hf.1, hf.2.1, hf.2.2, h0.1.1⟩
      · cases h
    · split at h
      · split at h <;> cases h
      · split at h
        · split at h <;> cases h
        · split at h
          · cases h
          · split at h
            · split at h <;> cases h
            · cases h

theorem new_tag {f : FetchD} {r : ReplyD} (h : readQ f r = 1) (hm : f.mt ≠ []) : r.m.w = false ∧ r.m.t = f.mt := by
  have h1 := (read_new h).2.2.1
  simp [tagNone, strongEq, weakEq, hm] at h1
  exact ⟨h1.2.2, h1.1.2.2.symm⟩
theorem meta_len {m : MetaD} (h : metaQ m = true) : -1 ≤ m.len ∧ m.len ≤ 1099511627776 := by
  simp only [metaQ, Bool.and_eq_true, numQ, decide_eq_true_eq] at h
  exact h.2.2.1
theorem new_whole {f : FetchD} {r : ReplyD} (h : readQ f r = 1) (hs : r.st = 200) : r.a = 0 ∧ (r.b = r.m.len ∨ r.m.len = -1 ∧ r.b = 4611686018427387904) := by
  obtain ⟨_, h1, _, h2, _⟩ := read_new h
  have h3 := meta_len h1
  unfold bringsQ endQ' at h2
  rw [if_pos hs] at h2
  simp only [Bool.and_eq_true, decide_eq_true_eq] at h2
  refine ⟨h2.1, ?_⟩
  have h4 := h2.2
  split at h4
  · exact .inr ⟨by omega, h4⟩
  · exact .inl h4
theorem new_part {f : FetchD} {r : ReplyD} (h : readQ f r = 1) (hs : r.st ≠ 200) : r.st = 206 ∧ r.a = f.a ∧ r.b ≤ f.b ∧ r.a < r.b := by
  obtain ⟨h0, h1, _, h2, _⟩ := read_new h
  simp [bringsQ, hs, endQ'] at h2
  exact ⟨by simpa [hs] using h0, h2.2.2.1, h2.2.2.2.1, h2.2.1⟩
theorem new_span {f : FetchD} {r : ReplyD} (h : readQ f r = 1) : 0 ≤ r.a ∧ r.a ≤ r.b ∧ r.b ≤ 4611686018427387904 := by
  obtain ⟨h0, h1, _, h2, _⟩ := read_new h
  by_cases hs : r.st = 200
  · obtain ⟨h4, h5⟩ := new_whole h hs
    have h3 := meta_len h1
    unfold bringsQ endQ' at h2
    rw [if_pos hs] at h2
    simp only [Bool.and_eq_true, decide_eq_true_eq] at h2
    have h6 := h2.2
    split at h6 <;> (rw [h4, h6]; omega)
  · unfold bringsQ at h2
    rw [if_neg hs] at h2
    simp only [Bool.and_eq_true, decide_eq_true_eq, spanQ] at h2
    exact ⟨h2.1.1, h2.1.2.1, h2.1.2.2⟩
theorem s6 (f : FetchD) (r : ReplyD) (M : Heap) : Pure Try.prog 6 [.agg f.c, .agg r.c] M (.bool true) := by
  obtain ⟨o, fa, fb, mt, mw, nt, nw⟩ := f
  obtain ⟨st, ⟨t, w, mod, len, have_, fresh, while_, err, keys, ten, keep⟩, a, b, age⟩ := r
  simp only [FetchD.c, ReplyD.c]
  refine Spec.strip (fun _ => false) ok6 (by simp) ?_
  unfold c6
  refine wps_seq_k fun K1 hK1 => wps_regW tab10 wtab8 tab10_ok wtab8_ok ?_; simp only [go_sem, Nat.reduceLeDiff, Nat.reducePow, Nat.reduceSub, Nat.reduceLT, Nat.reduceEqDiff, Nat.reduceAdd, Nat.reduceMul, ↓reduceIte, reduceCtorEq, tab10, t9, tab9, tab8, tab7, tab6, tab5, tab4, tab3, tab2, tab1, tab0, unsl_sl, unsl_nil, t11, t27, t17, t18, t19, t20, t21, t22, t23, t24, t25, deFS_c, deReply_c, deReply_n, deFetch_c, deObj_c, wtab8, w18, w20, w22]; (first | (refine hK1 _ ?_; clear hK1 K1) | (refine ⟨?_, hK1 _ ?_⟩ <;> clear hK1 K1; first | (· (simp; done)) | (· (simp +contextual; done)) | (· (simp +contextual; omega)) | (· grind) | skip))
  refine wps_seq_k fun K2 hK2 => ?_
  refine wps_seq_k fun K1 hK1 => wps_regW tab10 wtab8 tab10_ok wtab8_ok ?_; simp only [go_sem, Nat.reduceLeDiff, Nat.reducePow, Nat.reduceSub, Nat.reduceLT, Nat.reduceEqDiff, Nat.reduceAdd, Nat.reduceMul, ↓reduceIte, reduceCtorEq, tab10, t9, tab9, tab8, tab7, tab6, tab5, tab4, tab3, tab2, tab1, tab0, unsl_sl, unsl_nil, t11, t27, t17, t18, t19, t20, t21, t22, t23, t24, t25, deFS_c, deReply_c, deReply_n, deFetch_c, deObj_c, wtab8, w18, w20, w22]; (first | (refine hK1 _ ?_; clear hK1 K1) | (refine ⟨?_, hK1 _ ?_⟩ <;> clear hK1 K1; first | (· (simp; done)) | (· (simp +contextual; done)) | (· (simp +contextual; omega)) | (· grind) | skip))
  refine wps_cond (by simp only [go_sem, Nat.reduceLeDiff, Nat.reducePow, Nat.reduceSub, Nat.reduceLT, Nat.reduceEqDiff, Nat.reduceAdd, Nat.reduceMul, ↓reduceIte, reduceCtorEq, tab10, t9, tab9, tab8, tab7, tab6, tab5, tab4, tab3, tab2, tab1, tab0, unsl_sl, unsl_nil, t11, t27, t17, t18, t19, t20, t21, t22, t23, t24, t25, deFS_c, deReply_c, deReply_n, deFetch_c, deObj_c, wtab8, w18, w20, w22]; rfl) (by simp) (fun hb => ?_) (fun hb => ?_)
  · exact absurd hb (by decide)
  · refine hK2 _ ?_; clear hK2 K2
    refine wps_seq_k fun K3 hK3 => ?_
    refine wps_seq_k fun K1 hK1 => wps_regW tab10 wtab8 tab10_ok wtab8_ok ?_; simp only [go_sem, Nat.reduceLeDiff, Nat.reducePow, Nat.reduceSub, Nat.reduceLT, Nat.reduceEqDiff, Nat.reduceAdd, Nat.reduceMul, ↓reduceIte, reduceCtorEq, tab10, t9, tab9, tab8, tab7, tab6, tab5, tab4, tab3, tab2, tab1, tab0, unsl_sl, unsl_nil, t11, t27, t17, t18, t19, t20, t21, t22, t23, t24, t25, deFS_c, deReply_c, deReply_n, deFetch_c, deObj_c, wtab8, w18, w20, w22, ti27, ti32]; (first | (refine hK1 _ ?_; clear hK1 K1) | (refine ⟨?_, hK1 _ ?_⟩ <;> clear hK1 K1; first | (· (simp; done)) | (· (simp +contextual; done)) | (· (simp +contextual; omega)) | (· grind) | skip))
    refine wps_cond (by simp only [go_sem, Nat.reduceLeDiff, Nat.reducePow, Nat.reduceSub, Nat.reduceLT, Nat.reduceEqDiff, Nat.reduceAdd, Nat.reduceMul, ↓reduceIte, reduceCtorEq, tab10, t9, tab9, tab8, tab7, tab6, tab5, tab4, tab3, tab2, tab1, tab0, unsl_sl, unsl_nil, t11, t27, t17, t18, t19, t20, t21, t22, t23, t24, t25, deFS_c, deReply_c, deReply_n, deFetch_c, deObj_c, wtab8, w18, w20, w22]; rfl) (by simp) (fun hb => ?_) (fun hb => ?_)
    · refine wps_seq_k fun K1 hK1 => wps_regW tab10 wtab8 tab10_ok wtab8_ok ?_; simp only [go_sem, Nat.reduceLeDiff, Nat.reducePow, Nat.reduceSub, Nat.reduceLT, Nat.reduceEqDiff, Nat.reduceAdd, Nat.reduceMul, ↓reduceIte, reduceCtorEq, tab10, t9, tab9, tab8, tab7, tab6, tab5, tab4, tab3, tab2, tab1, tab0, unsl_sl, unsl_nil, t11, t27, t17, t18, t19, t20, t21, t22, t23, t24, t25, deFS_c, deReply_c, deReply_n, deFetch_c, deObj_c, wtab8, w18, w20, w22]; (first | (refine hK1 _ ?_; clear hK1 K1) | (refine ⟨?_, hK1 _ ?_⟩ <;> clear hK1 K1; first | (· (simp; done)) | (· (simp +contextual; done)) | (· (simp +contextual; omega)) | (· grind) | skip))
      simp only [wps, endQ, resV, resVs, resV1, go_sem, Nat.reduceLeDiff, Nat.reducePow, Nat.reduceSub, Nat.reduceLT, Nat.reduceEqDiff, Nat.reduceAdd, Nat.reduceMul, ↓reduceIte, reduceCtorEq, tab10, t9, tab9, tab8, tab7, tab6, tab5, tab4, tab3, tab2, tab1, tab0, unsl_sl, unsl_nil, t11, t27, t17, t18, t19, t20, t21, t22, t23, t24, t25, deFS_c, deReply_c, deReply_n, deFetch_c, deObj_c, wtab8, w18, w20, w22]
    · refine hK3 _ ?_; clear hK3 K3
      have hn : readQ ⟨o, fa, fb, mt, mw, nt, nw⟩ ⟨st, ⟨t, w, mod, len, have_, fresh, while_, err, keys, ten, keep⟩, a, b, age⟩ = 1 := by
        revert hb
        generalize readQ _ _ = q
        generalize smallQ _ = x
        generalize smallR _ = y
        intro hb
        cases x <;> cases y <;> simp at hb <;> first | exact hb | exact absurd hb (by decide) | skip
      clear hb
      refine wps_seq_k fun K4 hK4 => ?_
      refine wps_seq_k fun K1 hK1 => wps_regW tab10 wtab8 tab10_ok wtab8_ok ?_; simp only [go_sem, Nat.reduceLeDiff, Nat.reducePow, Nat.reduceSub, Nat.reduceLT, Nat.reduceEqDiff, Nat.reduceAdd, Nat.reduceMul, ↓reduceIte, reduceCtorEq, tab10, t9, tab9, tab8, tab7, tab6, tab5, tab4, tab3, tab2, tab1, tab0, unsl_sl, unsl_nil, t11, t27, t17, t18, t19, t20, t21, t22, t23, t24, t25, deFS_c, deReply_c, deReply_n, deFetch_c, deObj_c, wtab8, w18, w20, w22, fi25_0, fi25_1, fi27_2, fi30_0, fi32_1, ti4, ti9]; (first | (refine hK1 _ ?_; clear hK1 K1) | (refine ⟨?_, hK1 _ ?_⟩ <;> clear hK1 K1; first | (· (simp; done)) | (· (simp +contextual; done)) | (· (simp +contextual; omega)) | (· grind) | skip))
      refine wps_cond (by simp only [go_sem, Nat.reduceLeDiff, Nat.reducePow, Nat.reduceSub, Nat.reduceLT, Nat.reduceEqDiff, Nat.reduceAdd, Nat.reduceMul, ↓reduceIte, reduceCtorEq, tab10, t9, tab9, tab8, tab7, tab6, tab5, tab4, tab3, tab2, tab1, tab0, unsl_sl, unsl_nil, t11, t27, t17, t18, t19, t20, t21, t22, t23, t24, t25, deFS_c, deReply_c, deReply_n, deFetch_c, deObj_c, wtab8, w18, w20, w22]; rfl) (by simp) (fun hb => ?_) (fun hb => ?_)
      · refine wps_seq_k fun K1 hK1 => wps_regW tab10 wtab8 tab10_ok wtab8_ok ?_; simp only [go_sem, Nat.reduceLeDiff, Nat.reducePow, Nat.reduceSub, Nat.reduceLT, Nat.reduceEqDiff, Nat.reduceAdd, Nat.reduceMul, ↓reduceIte, reduceCtorEq, tab10, t9, tab9, tab8, tab7, tab6, tab5, tab4, tab3, tab2, tab1, tab0, unsl_sl, unsl_nil, t11, t27, t17, t18, t19, t20, t21, t22, t23, t24, t25, deFS_c, deReply_c, deReply_n, deFetch_c, deObj_c, wtab8, w18, w20, w22]; (first | (refine hK1 _ ?_; clear hK1 K1) | (refine ⟨?_, hK1 _ ?_⟩ <;> clear hK1 K1; first | (· (simp; done)) | (· (simp +contextual; done)) | (· (simp +contextual; omega)) | (· grind) | skip))
        simp only [wps, endQ, resV, resVs, resV1, go_sem, Nat.reduceLeDiff, Nat.reducePow, Nat.reduceSub, Nat.reduceLT, Nat.reduceEqDiff, Nat.reduceAdd, Nat.reduceMul, ↓reduceIte, reduceCtorEq, tab10, t9, tab9, tab8, tab7, tab6, tab5, tab4, tab3, tab2, tab1, tab0, unsl_sl, unsl_nil, t11, t27, t17, t18, t19, t20, t21, t22, t23, t24, t25, deFS_c, deReply_c, deReply_n, deFetch_c, deObj_c, wtab8, w18, w20, w22]
        exfalso
        clear hK4
        have h1 := new_tag hn
        simp only at h1
        by_cases hm : mt = []
        · simp [hm] at hb
        · obtain ⟨h2, h3⟩ := h1 hm
          simp [hm, h2, h3] at hb
      · refine hK4 _ ?_; clear hK4 K4
        refine wps_seq_k fun K5 hK5 => ?_
        refine wps_seq_k fun K1 hK1 => wps_regW tab10 wtab8 tab10_ok wtab8_ok ?_; simp only [go_sem, Nat.reduceLeDiff, Nat.reducePow, Nat.reduceSub, Nat.reduceLT, Nat.reduceEqDiff, Nat.reduceAdd, Nat.reduceMul, ↓reduceIte, reduceCtorEq, tab10, t9, tab9, tab8, tab7, tab6, tab5, tab4, tab3, tab2, tab1, tab0, unsl_sl, unsl_nil, t11, t27, t17, t18, t19, t20, t21, t22, t23, t24, t25, deFS_c, deReply_c, deReply_n, deFetch_c, deObj_c, wtab8, w18, w20, w22, fi32_0, ti3]; (first | (refine hK1 _ ?_; clear hK1 K1) | (refine ⟨?_, hK1 _ ?_⟩ <;> clear hK1 K1; first | (· (simp; done)) | (· (simp +contextual; done)) | (· (simp +contextual; omega)) | (· grind) | skip))
        have hb2 := hb; clear hb
        refine wps_cond (by simp only [go_sem, Nat.reduceLeDiff, Nat.reducePow, Nat.reduceSub, Nat.reduceLT, Nat.reduceEqDiff, Nat.reduceAdd, Nat.reduceMul, ↓reduceIte, reduceCtorEq, tab10, t9, tab9, tab8, tab7, tab6, tab5, tab4, tab3, tab2, tab1, tab0, unsl_sl, unsl_nil, t11, t27, t17, t18, t19, t20, t21, t22, t23, t24, t25, deFS_c, deReply_c, deReply_n, deFetch_c, deObj_c, wtab8, w18, w20, w22]; rfl) (by simp) (fun hb => ?_) (fun hb => ?_)
        · refine wps_seq_k fun K1 hK1 => wps_regW tab10 wtab8 tab10_ok wtab8_ok ?_; simp only [go_sem, Nat.reduceLeDiff, Nat.reducePow, Nat.reduceSub, Nat.reduceLT, Nat.reduceEqDiff, Nat.reduceAdd, Nat.reduceMul, ↓reduceIte, reduceCtorEq, tab10, t9, tab9, tab8, tab7, tab6, tab5, tab4, tab3, tab2, tab1, tab0, unsl_sl, unsl_nil, t11, t27, t17, t18, t19, t20, t21, t22, t23, t24, t25, deFS_c, deReply_c, deReply_n, deFetch_c, deObj_c, wtab8, w18, w20, w22, fi23_0, fi23_1, fi30_2, fi32_1, fi32_2, ti2]; (first | (refine hK1 _ ?_; clear hK1 K1) | (refine ⟨?_, hK1 _ ?_⟩ <;> clear hK1 K1; first | (· (simp; done)) | (· (simp +contextual; done)) | (· (simp +contextual; omega)) | (· grind) | skip))
          simp only [wps, endQ, resV, resVs, resV1, go_sem, Nat.reduceLeDiff, Nat.reducePow, Nat.reduceSub, Nat.reduceLT, Nat.reduceEqDiff, Nat.reduceAdd, Nat.reduceMul, ↓reduceIte, reduceCtorEq, tab10, t9, tab9, tab8, tab7, tab6, tab5, tab4, tab3, tab2, tab1, tab0, unsl_sl, unsl_nil, t11, t27, t17, t18, t19, t20, t21, t22, t23, t24, t25, deFS_c, deReply_c, deReply_n, deFetch_c, deObj_c, wtab8, w18, w20, w22]
          have h1 := new_whole hn (by simpa using hb)
          simp only at h1
          rw [V.bool.injEq, Bool.eq_iff_iff]
          clear hK5
          simp
          omega
        · refine hK5 _ ?_; clear hK5 K5
          refine wps_seq_k fun K1 hK1 => wps_regW tab10 wtab8 tab10_ok wtab8_ok ?_; simp only [go_sem, Nat.reduceLeDiff, Nat.reducePow, Nat.reduceSub, Nat.reduceLT, Nat.reduceEqDiff, Nat.reduceAdd, Nat.reduceMul, ↓reduceIte, reduceCtorEq, tab10, t9, tab9, tab8, tab7, tab6, tab5, tab4, tab3, tab2, tab1, tab0, unsl_sl, unsl_nil, t11, t27, t17, t18, t19, t20, t21, t22, t23, t24, t25, deFS_c, deReply_c, deReply_n, deFetch_c, deObj_c, wtab8, w18, w20, w22, fi23_0, fi23_1, fi27_1, fi32_0, fi32_2, ti2, ti3]; (first | (refine hK1 _ ?_; clear hK1 K1) | (refine ⟨?_, hK1 _ ?_⟩ <;> clear hK1 K1; first | (· (simp; done)) | (· (simp +contextual; done)) | (· (simp +contextual; omega)) | (· grind) | skip))
          simp only [wps, endQ, resV, resVs, resV1, go_sem, Nat.reduceLeDiff, Nat.reducePow, Nat.reduceSub, Nat.reduceLT, Nat.reduceEqDiff, Nat.reduceAdd, Nat.reduceMul, ↓reduceIte, reduceCtorEq, tab10, t9, tab9, tab8, tab7, tab6, tab5, tab4, tab3, tab2, tab1, tab0, unsl_sl, unsl_nil, t11, t27, t17, t18, t19, t20, t21, t22, t23, t24, t25, deFS_c, deReply_c, deReply_n, deFetch_c, deObj_c, wtab8, w18, w20, w22]
          have h1 := new_part hn (by simpa using hb)
          simp only at h1
          rw [V.bool.injEq, Bool.eq_iff_iff]
          simp
          omega

theorem s8 (kind n : Int) (whole : Bool) (r : ReplyD) (M : Heap) : Pure Try.prog 8 [.agg (.int .u8 kind :: r.c ++ [.int .i64 n, .bool whole])] M (.bool true) := by
  obtain ⟨st, ⟨t, w, mod, len, have_, fresh, while_, err, keys, ten, keep⟩, a, b, age⟩ := r
  simp only [ReplyD.c, List.cons_append, List.nil_append]
  refine Spec.strip (fun _ => false) ok8 (by simp) ?_
  unfold c8
  refine wps_seq_k fun K1 hK1 => wps_regW tab10 wtab8 tab10_ok wtab8_ok ?_; simp only [go_sem, Nat.reduceLeDiff, Nat.reducePow, Nat.reduceSub, Nat.reduceLT, Nat.reduceEqDiff, Nat.reduceAdd, Nat.reduceMul, ↓reduceIte, reduceCtorEq, tab10, t9, tab9, tab8, tab7, tab6, tab5, tab4, tab3, tab2, tab1, tab0, unsl_sl, unsl_nil, t11, t27, t17, t18, t19, t20, t21, t22, t23, t24, t25, deFS_c, deReply_c, deReply_n, deFetch_c, deObj_c, wtab8, w18, w20, w22]; (first | (refine hK1 _ ?_; clear hK1 K1) | (refine ⟨?_, hK1 _ ?_⟩ <;> clear hK1 K1; first | (· (simp; done)) | (· (simp +contextual; done)) | (· (simp +contextual; omega)) | (· grind) | skip))
  refine wps_seq_k fun K2 hK2 => ?_
  refine wps_seq_k fun K1 hK1 => wps_regW tab10 wtab8 tab10_ok wtab8_ok ?_; simp only [go_sem, Nat.reduceLeDiff, Nat.reducePow, Nat.reduceSub, Nat.reduceLT, Nat.reduceEqDiff, Nat.reduceAdd, Nat.reduceMul, ↓reduceIte, reduceCtorEq, tab10, t9, tab9, tab8, tab7, tab6, tab5, tab4, tab3, tab2, tab1, tab0, unsl_sl, unsl_nil, t11, t27, t17, t18, t19, t20, t21, t22, t23, t24, t25, deFS_c, deReply_c, deReply_n, deFetch_c, deObj_c, wtab8, w18, w20, w22]; (first | (refine hK1 _ ?_; clear hK1 K1) | (refine ⟨?_, hK1 _ ?_⟩ <;> clear hK1 K1; first | (· (simp; done)) | (· (simp +contextual; done)) | (· (simp +contextual; omega)) | (· grind) | skip))
  refine wps_cond (by simp only [go_sem, Nat.reduceLeDiff, Nat.reducePow, Nat.reduceSub, Nat.reduceLT, Nat.reduceEqDiff, Nat.reduceAdd, Nat.reduceMul, ↓reduceIte, reduceCtorEq, tab10, t9, tab9, tab8, tab7, tab6, tab5, tab4, tab3, tab2, tab1, tab0, unsl_sl, unsl_nil, t11, t27, t17, t18, t19, t20, t21, t22, t23, t24, t25, deFS_c, deReply_c, deReply_n, deFetch_c, deObj_c, wtab8, w18, w20, w22]; rfl) (by simp) (fun hb => ?_) (fun hb => ?_)
  · exact absurd hb (by decide)
  · refine hK2 _ ?_; clear hK2 K2
    refine wps_seq_k fun K3 hK3 => ?_
    refine wps_seq_k fun K1 hK1 => wps_regW tab10 wtab8 tab10_ok wtab8_ok ?_; simp only [go_sem, Nat.reduceLeDiff, Nat.reducePow, Nat.reduceSub, Nat.reduceLT, Nat.reduceEqDiff, Nat.reduceAdd, Nat.reduceMul, ↓reduceIte, reduceCtorEq, tab10, t9, tab9, tab8, tab7, tab6, tab5, tab4, tab3, tab2, tab1, tab0, unsl_sl, unsl_nil, t11, t27, t17, t18, t19, t20, t21, t22, t23, t24, t25, deFS_c, deReply_c, deReply_n, deFetch_c, deObj_c, wtab8, w18, w20, w22, fi40_1, ti32]; (first | (refine hK1 _ ?_; clear hK1 K1) | (refine ⟨?_, hK1 _ ?_⟩ <;> clear hK1 K1; first | (· (simp; done)) | (· (simp +contextual; done)) | (· (simp +contextual; omega)) | (· grind) | skip))
    refine wps_cond (by simp only [go_sem, Nat.reduceLeDiff, Nat.reducePow, Nat.reduceSub, Nat.reduceLT, Nat.reduceEqDiff, Nat.reduceAdd, Nat.reduceMul, ↓reduceIte, reduceCtorEq, tab10, t9, tab9, tab8, tab7, tab6, tab5, tab4, tab3, tab2, tab1, tab0, unsl_sl, unsl_nil, t11, t27, t17, t18, t19, t20, t21, t22, t23, t24, t25, deFS_c, deReply_c, deReply_n, deFetch_c, deObj_c, wtab8, w18, w20, w22]; rfl) (by simp) (fun hb => ?_) (fun hb => ?_)
    · refine wps_seq_k fun K1 hK1 => wps_regW tab10 wtab8 tab10_ok wtab8_ok ?_; simp only [go_sem, Nat.reduceLeDiff, Nat.reducePow, Nat.reduceSub, Nat.reduceLT, Nat.reduceEqDiff, Nat.reduceAdd, Nat.reduceMul, ↓reduceIte, reduceCtorEq, tab10, t9, tab9, tab8, tab7, tab6, tab5, tab4, tab3, tab2, tab1, tab0, unsl_sl, unsl_nil, t11, t27, t17, t18, t19, t20, t21, t22, t23, t24, t25, deFS_c, deReply_c, deReply_n, deFetch_c, deObj_c, wtab8, w18, w20, w22]; (first | (refine hK1 _ ?_; clear hK1 K1) | (refine ⟨?_, hK1 _ ?_⟩ <;> clear hK1 K1; first | (· (simp; done)) | (· (simp +contextual; done)) | (· (simp +contextual; omega)) | (· grind) | skip))
      simp only [wps, endQ, resV, resVs, resV1, go_sem, Nat.reduceLeDiff, Nat.reducePow, Nat.reduceSub, Nat.reduceLT, Nat.reduceEqDiff, Nat.reduceAdd, Nat.reduceMul, ↓reduceIte, reduceCtorEq, tab10, t9, tab9, tab8, tab7, tab6, tab5, tab4, tab3, tab2, tab1, tab0, unsl_sl, unsl_nil, t11, t27, t17, t18, t19, t20, t21, t22, t23, t24, t25, deFS_c, deReply_c, deReply_n, deFetch_c, deObj_c, wtab8, w18, w20, w22]
    · refine hK3 _ ?_; clear hK3 K3
      refine wps_seq_k fun K1 hK1 => wps_regW tab10 wtab8 tab10_ok wtab8_ok ?_; simp only [go_sem, Nat.reduceLeDiff, Nat.reducePow, Nat.reduceSub, Nat.reduceLT, Nat.reduceEqDiff, Nat.reduceAdd, Nat.reduceMul, ↓reduceIte, reduceCtorEq, tab10, t9, tab9, tab8, tab7, tab6, tab5, tab4, tab3, tab2, tab1, tab0, unsl_sl, unsl_nil, t11, t27, t17, t18, t19, t20, t21, t22, t23, t24, t25, deFS_c, deReply_c, deReply_n, deFetch_c, deObj_c, wtab8, w18, w20, w22]; (first | (refine hK1 _ ?_; clear hK1 K1) | (refine ⟨?_, hK1 _ ?_⟩ <;> clear hK1 K1; first | (· (simp; done)) | (· (simp +contextual; done)) | (· (simp +contextual; omega)) | (· grind) | skip))
      refine wps_seq_k fun K1 hK1 => wps_regW tab10 wtab8 tab10_ok wtab8_ok ?_; simp only [go_sem, Nat.reduceLeDiff, Nat.reducePow, Nat.reduceSub, Nat.reduceLT, Nat.reduceEqDiff, Nat.reduceAdd, Nat.reduceMul, ↓reduceIte, reduceCtorEq, tab10, t9, tab9, tab8, tab7, tab6, tab5, tab4, tab3, tab2, tab1, tab0, unsl_sl, unsl_nil, t11, t27, t17, t18, t19, t20, t21, t22, t23, t24, t25, deFS_c, deReply_c, deReply_n, deFetch_c, deObj_c, wtab8, w18, w20, w22, fi40_1, ti32, und41]; (first | (refine hK1 _ ?_; clear hK1 K1) | (refine ⟨?_, hK1 _ ?_⟩ <;> clear hK1 K1; first | (· (simp; done)) | (· (simp +contextual; done)) | (· (simp +contextual; omega)) | (· grind) | skip))
      refine wps_seq_k fun K1 hK1 => wps_regW tab10 wtab8 tab10_ok wtab8_ok ?_; simp only [go_sem, Nat.reduceLeDiff, Nat.reducePow, Nat.reduceSub, Nat.reduceLT, Nat.reduceEqDiff, Nat.reduceAdd, Nat.reduceMul, ↓reduceIte, reduceCtorEq, tab10, t9, tab9, tab8, tab7, tab6, tab5, tab4, tab3, tab2, tab1, tab0, unsl_sl, unsl_nil, t11, t27, t17, t18, t19, t20, t21, t22, t23, t24, t25, deFS_c, deReply_c, deReply_n, deFetch_c, deObj_c, wtab8, w18, w20, w22, fi40_2, ti2, und2, und41, ti23, zero23]; (first | (refine hK1 _ ?_; clear hK1 K1) | (refine ⟨?_, hK1 _ ?_⟩ <;> clear hK1 K1; first | (· (simp; done)) | (· (simp +contextual; done)) | (· (simp +contextual; omega)) | (· grind) | skip))
      refine wps_seq_k fun K1 hK1 => wps_regW tab10 wtab8 tab10_ok wtab8_ok ?_; simp only [go_sem, Nat.reduceLeDiff, Nat.reducePow, Nat.reduceSub, Nat.reduceLT, Nat.reduceEqDiff, Nat.reduceAdd, Nat.reduceMul, ↓reduceIte, reduceCtorEq, tab10, t9, tab9, tab8, tab7, tab6, tab5, tab4, tab3, tab2, tab1, tab0, unsl_sl, unsl_nil, t11, t27, t17, t18, t19, t20, t21, t22, t23, t24, t25, deFS_c, deReply_c, deReply_n, deFetch_c, deObj_c, wtab8, w18, w20, w22, und41, ti23, zero23]; (first | (refine hK1 _ ?_; clear hK1 K1) | (refine ⟨?_, hK1 _ ?_⟩ <;> clear hK1 K1; first | (· (simp; done)) | (· (simp +contextual; done)) | (· (simp +contextual; omega)) | (· grind) | skip))
      refine wps_seq_k fun K1 hK1 => wps_regW tab10 wtab8 tab10_ok wtab8_ok ?_; simp only [go_sem, Nat.reduceLeDiff, Nat.reducePow, Nat.reduceSub, Nat.reduceLT, Nat.reduceEqDiff, Nat.reduceAdd, Nat.reduceMul, ↓reduceIte, reduceCtorEq, tab10, t9, tab9, tab8, tab7, tab6, tab5, tab4, tab3, tab2, tab1, tab0, unsl_sl, unsl_nil, t11, t27, t17, t18, t19, t20, t21, t22, t23, t24, t25, deFS_c, deReply_c, deReply_n, deFetch_c, deObj_c, wtab8, w18, w20, w22, bs23, eg23, eq23, fi40_3, ti23, ti4, und4, und41, zero23]; (first | (refine hK1 _ ?_; clear hK1 K1) | (refine ⟨?_, hK1 _ ?_⟩ <;> clear hK1 K1; first | (· (simp; done)) | (· (simp +contextual; done)) | (· (simp +contextual; omega)) | (· grind) | skip))
      simp only [wps, endQ, resV, resVs, resV1, go_sem, Nat.reduceLeDiff, Nat.reducePow, Nat.reduceSub, Nat.reduceLT, Nat.reduceEqDiff, Nat.reduceAdd, Nat.reduceMul, ↓reduceIte, reduceCtorEq, tab10, t9, tab9, tab8, tab7, tab6, tab5, tab4, tab3, tab2, tab1, tab0, unsl_sl, unsl_nil, t11, t27, t17, t18, t19, t20, t21, t22, t23, t24, t25, deFS_c, deReply_c, deReply_n, deFetch_c, deObj_c, wtab8, w18, w20, w22]
      rfl
end Go.Eng.Try
