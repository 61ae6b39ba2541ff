/- The laws with loops, go on. -/
import Derived.Test.YtndjoblgphalhaaT15
namespace Go.Eng.Try
open Go.Proofs
attribute [local go_sem] oss_nil_eq Int.toNat_natCast maxLen Nat.zero_le run step opv slotV opvs dstLt evalQ constV isA setD upd_app guardB List.getD_cons_zero List.getD_cons_succ List.getD_nil V.tag V.cells decide_true decide_false Bool.false_eq_true if_false if_true ne_eq Nat.one_ne_zero not_false_eq_true keyKind cellOk List.forall_mem_cons List.not_mem_nil false_implies true_and and_true implies_true forall_const bump addrAdd loadA loadV part opV binV eqlV eqOk pickV unV convV boundV fillV storeTo splice List.getElem?_cons_zero List.getElem?_cons_succ List.take_succ_cons List.take_zero List.drop_succ_cons List.drop_zero List.length_cons List.length_nil List.cons_append List.nil_append List.append_nil List.getElem_toArray List.getElem?_toArray List.size_toArray and_self eqV_tupl eqV_tupr fbt tbf beq_self_eq_true Bool.not_false Bool.not_true cond_true cond_false newVarW updH_self updH_updH isFuncFn runT stepT stepC isCallV callOf callV escL memN runW stepW stepCW runD stepD safeB slots ownS stepOwn reads runM stepM emptyH
set_option linter.unusedSimpArgs false
set_option linter.unusedVariables false

def nl (l : List Int) : List (List V) := l.map fun n => [.int .i64 n]
theorem nl_len (l : List Int) : (nl l).length = l.length := by simp [nl]
theorem nl_get {l : List Int} {k : Nat} (h : k < l.length) : (nl l).getD k [] = [.int .i64 (l.getD k 0)] := by
  simp [nl, List.getD_eq_getElem?_getD, List.getElem?_eq_getElem h]
theorem nl_lens {l : List Int} {v u : V} (h : lensOk [v, u, .lst (nl l)]) : l.length ≤ 9223372036854775807 := by
  have := h.2.2.1.1
  rw [nl_len] at this
  simpa [maxLen] using this

theorem data_bad {f : FetchD} {p b n : Int} (h0 : 0 ≤ p) (h1 : p ≤ b) (h2 : b ≤ 4611686018427387904) (hn : ¬ (1 ≤ n ∧ n ≤ b - p)) : ∃ e, e ≠ 0 ∧ dataF ⟨f, 1, p, b⟩ n = (⟨f, 1, p, b⟩, (0, 0), e) := by
  unfold dataF
  simp only [if_true]
  have hw : IntKind.i64.wrap (b - p) = b - p := IntWalk.i64_in _ (by omega)
  rw [hw]
  by_cases h3 : n < 1
  · exact ⟨1, by decide, by simp [h3]⟩
  · have h4 : b - p < n := by omega
    exact ⟨4, by decide, by simp [h3, h4]⟩
theorem data_ok {f : FetchD} {p b n : Int} (h0 : 0 ≤ p) (h1 : p ≤ b) (h2 : b ≤ 4611686018427387904) (hn : 1 ≤ n ∧ n ≤ b - p) : dataF ⟨f, 1, p, b⟩ n = (⟨f, 1, p + n, b⟩, (p, p + n), 0) := by
  unfold dataF
  simp only [if_true]
  have hw : IntKind.i64.wrap (b - p) = b - p := IntWalk.i64_in _ (by omega)
  have hw2 : IntKind.i64.wrap (p + n) = p + n := IntWalk.i64_in _ (by omega)
  rw [hw, hw2, if_neg (by omega), if_neg (by omega)]

theorem s5 (f : FetchD) (r : ReplyD) (l : List Int) (M : Heap) : Spec Try.prog 5 [.agg f.c, .agg r.c, .lst (nl l)] M fun v _ => v = .bool true := by
  refine Spec.strip' (fun _ => false) ok5 (by simp) (fun hlen => ?_)
  have hlen := nl_lens hlen
  obtain ⟨fo, fa, fb, mt, mw, nt, nw⟩ := f
  obtain ⟨st, ⟨t, w, mod, len, have_, fresh, while_, err, keys, ten, keep⟩, a, b, age⟩ := r
  simp only [FetchD.c, ReplyD.c]
  unfold c5
  refine wps_seq_k fun K1 hK1 => wps_regW tab10 wtab8 tab10_ok wtab8_ok ?_; simp only [go_sem, Nat.reduceLeDiff, Nat.reducePow, Nat.reduceSub, Nat.reduceLT, Nat.reduceEqDiff, Nat.reduceAdd, Nat.reduceMul, ↓reduceIte, reduceCtorEq, tab10, t9, tab9, tab8, tab7, tab6, tab5, tab4, tab3, tab2, tab1, tab0, unsl_sl, unsl_nil, t11, t27, t17, t18, t19, t20, t21, t22, t23, t24, t25, deFS_c, deReply_c, deReply_n, deFetch_c, deObj_c, wtab8, w18, w20, w22]; (first | (refine hK1 _ ?_; clear hK1 K1) | (refine ⟨?_, hK1 _ ?_⟩ <;> clear hK1 K1; first | (· (simp; done)) | (· (simp +contextual; done)) | (· (simp +contextual; omega)) | (· grind) | skip))
  refine wps_seq_k fun K2 hK2 => ?_
  refine wps_seq_k fun K1 hK1 => wps_regW tab10 wtab8 tab10_ok wtab8_ok ?_; simp only [go_sem, Nat.reduceLeDiff, Nat.reducePow, Nat.reduceSub, Nat.reduceLT, Nat.reduceEqDiff, Nat.reduceAdd, Nat.reduceMul, ↓reduceIte, reduceCtorEq, tab10, t9, tab9, tab8, tab7, tab6, tab5, tab4, tab3, tab2, tab1, tab0, unsl_sl, unsl_nil, t11, t27, t17, t18, t19, t20, t21, t22, t23, t24, t25, deFS_c, deReply_c, deReply_n, deFetch_c, deObj_c, wtab8, w18, w20, w22]; (first | (refine hK1 _ ?_; clear hK1 K1) | (refine ⟨?_, hK1 _ ?_⟩ <;> clear hK1 K1; first | (· (simp; done)) | (· (simp +contextual; done)) | (· (simp +contextual; omega)) | (· grind) | skip))
  refine wps_cond (by simp only [go_sem, Nat.reduceLeDiff, Nat.reducePow, Nat.reduceSub, Nat.reduceLT, Nat.reduceEqDiff, Nat.reduceAdd, Nat.reduceMul, ↓reduceIte, reduceCtorEq, tab10, t9, tab9, tab8, tab7, tab6, tab5, tab4, tab3, tab2, tab1, tab0, unsl_sl, unsl_nil, t11, t27, t17, t18, t19, t20, t21, t22, t23, t24, t25, deFS_c, deReply_c, deReply_n, deFetch_c, deObj_c, wtab8, w18, w20, w22]; rfl) (by simp) (fun hb => ?_) (fun hb => ?_)
  · exact absurd hb (by decide)
  · refine hK2 _ ?_; clear hK2 K2
    refine wps_seq_k fun K3 hK3 => ?_
    refine wps_seq_k fun K1 hK1 => wps_regW tab10 wtab8 tab10_ok wtab8_ok ?_; simp only [go_sem, Nat.reduceLeDiff, Nat.reducePow, Nat.reduceSub, Nat.reduceLT, Nat.reduceEqDiff, Nat.reduceAdd, Nat.reduceMul, ↓reduceIte, reduceCtorEq, tab10, t9, tab9, tab8, tab7, tab6, tab5, tab4, tab3, tab2, tab1, tab0, unsl_sl, unsl_nil, t11, t27, t17, t18, t19, t20, t21, t22, t23, t24, t25, deFS_c, deReply_c, deReply_n, deFetch_c, deObj_c, wtab8, w18, w20, w22, ti27, ti32, und63, nl_len]; (first | (refine hK1 _ ?_; clear hK1 K1) | (refine ⟨?_, hK1 _ ?_⟩ <;> clear hK1 K1; first | (· (simp; done)) | (· (simp +contextual; done)) | (· (simp +contextual; omega)) | (· grind) | skip))
    refine wps_cond (by simp only [go_sem, Nat.reduceLeDiff, Nat.reducePow, Nat.reduceSub, Nat.reduceLT, Nat.reduceEqDiff, Nat.reduceAdd, Nat.reduceMul, ↓reduceIte, reduceCtorEq, tab10, t9, tab9, tab8, tab7, tab6, tab5, tab4, tab3, tab2, tab1, tab0, unsl_sl, unsl_nil, t11, t27, t17, t18, t19, t20, t21, t22, t23, t24, t25, deFS_c, deReply_c, deReply_n, deFetch_c, deObj_c, wtab8, w18, w20, w22]; rfl) (by simp) (fun hb => ?_) (fun hb => ?_)
    · refine wps_seq_k fun K1 hK1 => wps_regW tab10 wtab8 tab10_ok wtab8_ok ?_; simp only [go_sem, Nat.reduceLeDiff, Nat.reducePow, Nat.reduceSub, Nat.reduceLT, Nat.reduceEqDiff, Nat.reduceAdd, Nat.reduceMul, ↓reduceIte, reduceCtorEq, tab10, t9, tab9, tab8, tab7, tab6, tab5, tab4, tab3, tab2, tab1, tab0, unsl_sl, unsl_nil, t11, t27, t17, t18, t19, t20, t21, t22, t23, t24, t25, deFS_c, deReply_c, deReply_n, deFetch_c, deObj_c, wtab8, w18, w20, w22]; (first | (refine hK1 _ ?_; clear hK1 K1) | (refine ⟨?_, hK1 _ ?_⟩ <;> clear hK1 K1; first | (· (simp; done)) | (· (simp +contextual; done)) | (· (simp +contextual; omega)) | (· grind) | skip))
      simp only [wps, endQ, resV, resVs, resV1, go_sem, Nat.reduceLeDiff, Nat.reducePow, Nat.reduceSub, Nat.reduceLT, Nat.reduceEqDiff, Nat.reduceAdd, Nat.reduceMul, ↓reduceIte, reduceCtorEq, tab10, t9, tab9, tab8, tab7, tab6, tab5, tab4, tab3, tab2, tab1, tab0, unsl_sl, unsl_nil, t11, t27, t17, t18, t19, t20, t21, t22, t23, t24, t25, deFS_c, deReply_c, deReply_n, deFetch_c, deObj_c, wtab8, w18, w20, w22]
    · refine hK3 _ ?_; clear hK3 K3
      have hn : readQ ⟨fo, fa, fb, mt, mw, nt, nw⟩ ⟨st, ⟨t, w, mod, len, have_, fresh, while_, err, keys, ten, keep⟩, a, b, age⟩ = 1 := by
        revert hb
        generalize readQ _ _ = q
        generalize smallQ _ = x
        generalize smallR _ = y
        generalize decide ((l.length : Int) > 60) = z
        intro hb
        cases x <;> cases y <;> cases z <;> simp at hb <;> first | exact hb | exact absurd hb (by decide) | skip
      clear hb
      have hsp := new_span hn
      simp only at hsp
      have hfq := (read_new hn).2.2.2.2
      have hrp : replyF ⟨⟨fo, fa, fb, mt, mw, nt, nw⟩, 0, 0, 0⟩ ⟨st, ⟨t, w, mod, len, have_, fresh, while_, err, keys, ten, keep⟩, a, b, age⟩ = (⟨⟨fo, fa, fb, mt, mw, nt, nw⟩, 1, a, b⟩, 1, 0) := by
        simp [replyF, hn]
      refine wps_seq_k fun K1 hK1 => wps_regW tab10 wtab8 tab10_ok wtab8_ok ?_; simp only [go_sem, Nat.reduceLeDiff, Nat.reducePow, Nat.reduceSub, Nat.reduceLT, Nat.reduceEqDiff, Nat.reduceAdd, Nat.reduceMul, ↓reduceIte, reduceCtorEq, tab10, t9, tab9, tab8, tab7, tab6, tab5, tab4, tab3, tab2, tab1, tab0, unsl_sl, unsl_nil, t11, t27, t17, t18, t19, t20, t21, t22, t23, t24, t25, deFS_c, deReply_c, deReply_n, deFetch_c, deObj_c, wtab8, w18, w20, w22, ti27]; (first | (refine oss_obl ?_ ?_; first | (· (simp; done)) | (· (simp +contextual; done)) | (· (simp +contextual; omega)) | (· grind) | skip) | skip)
      refine oss_call rfl (by simp only [go_sem, Nat.reduceLeDiff, Nat.reducePow, Nat.reduceSub, Nat.reduceLT, Nat.reduceEqDiff, Nat.reduceAdd, Nat.reduceMul, ↓reduceIte, reduceCtorEq, tab10, t9, tab9, tab8, tab7, tab6, tab5, tab4, tab3, tab2, tab1, tab0, unsl_sl, unsl_nil, t11, t27, t17, t18, t19, t20, t21, t22, t23, t24, t25, deFS_c, deReply_c, deReply_n, deFetch_c, deObj_c, wtab8, w18, w20, w22]; rfl) (by simp) (s16 ⟨fo, fa, fb, mt, mw, nt, nw⟩ _) ?_
      rintro _ _ (⟨hq, o, ho, rfl, rfl⟩ | ⟨hq, rfl, rfl⟩)
      case inr => rw [hfq] at hq; cases hq
      refine oss_runW tab10 wtab8 tab10_ok wtab8_ok ?_; simp only [go_sem, Nat.reduceLeDiff, Nat.reducePow, Nat.reduceSub, Nat.reduceLT, Nat.reduceEqDiff, Nat.reduceAdd, Nat.reduceMul, ↓reduceIte, reduceCtorEq, tab10, t9, tab9, tab8, tab7, tab6, tab5, tab4, tab3, tab2, tab1, tab0, unsl_sl, unsl_nil, t11, t27, t17, t18, t19, t20, t21, t22, t23, t24, t25, deFS_c, deReply_c, deReply_n, deFetch_c, deObj_c, wtab8, w18, w20, w22]; (first | (refine hK1 _ ?_; clear hK1 K1) | (refine ⟨?_, hK1 _ ?_⟩ <;> clear hK1 K1; first | (· (simp; done)) | (· (simp +contextual; done)) | (· (simp +contextual; omega)) | (· grind) | skip))
      refine wps_seq_k fun K4 hK4 => ?_
      refine wps_seq_k fun K1 hK1 => wps_regW tab10 wtab8 tab10_ok wtab8_ok ?_; simp only [go_sem, Nat.reduceLeDiff, Nat.reducePow, Nat.reduceSub, Nat.reduceLT, Nat.reduceEqDiff, Nat.reduceAdd, Nat.reduceMul, ↓reduceIte, reduceCtorEq, tab10, t9, tab9, tab8, tab7, tab6, tab5, tab4, tab3, tab2, tab1, tab0, unsl_sl, unsl_nil, t11, t27, t17, t18, t19, t20, t21, t22, t23, t24, t25, deFS_c, deReply_c, deReply_n, deFetch_c, deObj_c, wtab8, w18, w20, w22, eq41a, eq41b, eq41c, und41]; (first | (refine hK1 _ ?_; clear hK1 K1) | (refine ⟨?_, hK1 _ ?_⟩ <;> clear hK1 K1; first | (· (simp; done)) | (· (simp +contextual; done)) | (· (simp +contextual; omega)) | (· grind) | skip))
      refine wps_cond (by simp only [go_sem, Nat.reduceLeDiff, Nat.reducePow, Nat.reduceSub, Nat.reduceLT, Nat.reduceEqDiff, Nat.reduceAdd, Nat.reduceMul, ↓reduceIte, reduceCtorEq, tab10, t9, tab9, tab8, tab7, tab6, tab5, tab4, tab3, tab2, tab1, tab0, unsl_sl, unsl_nil, t11, t27, t17, t18, t19, t20, t21, t22, t23, t24, t25, deFS_c, deReply_c, deReply_n, deFetch_c, deObj_c, wtab8, w18, w20, w22]; rfl) (by simp) (fun hb => ?_) (fun hb => ?_)
      · exact absurd hb (by decide)
      · refine hK4 _ ?_; clear hK4 K4 hb
        refine wps_seq_k fun K1 hK1 => wps_regW tab10 wtab8 tab10_ok wtab8_ok ?_; simp only [go_sem, Nat.reduceLeDiff, Nat.reducePow, Nat.reduceSub, Nat.reduceLT, Nat.reduceEqDiff, Nat.reduceAdd, Nat.reduceMul, ↓reduceIte, reduceCtorEq, tab10, t9, tab9, tab8, tab7, tab6, tab5, tab4, tab3, tab2, tab1, tab0, unsl_sl, unsl_nil, t11, t27, t17, t18, t19, t20, t21, t22, t23, t24, t25, deFS_c, deReply_c, deReply_n, deFetch_c, deObj_c, wtab8, w18, w20, w22, ti32, und41, hrp]; (first | (refine hK1 _ ?_; clear hK1 K1) | (refine ⟨?_, hK1 _ ?_⟩ <;> clear hK1 K1; first | (· (simp; done)) | (· (simp +contextual; done)) | (· (simp +contextual; omega)) | (· grind) | skip))
        refine wps_seq_k fun K1 hK1 => wps_regW tab10 wtab8 tab10_ok wtab8_ok ?_; simp only [go_sem, Nat.reduceLeDiff, Nat.reducePow, Nat.reduceSub, Nat.reduceLT, Nat.reduceEqDiff, Nat.reduceAdd, Nat.reduceMul, ↓reduceIte, reduceCtorEq, tab10, t9, tab9, tab8, tab7, tab6, tab5, tab4, tab3, tab2, tab1, tab0, unsl_sl, unsl_nil, t11, t27, t17, t18, t19, t20, t21, t22, t23, t24, t25, deFS_c, deReply_c, deReply_n, deFetch_c, deObj_c, wtab8, w18, w20, w22, fi23_0, fi32_2, ti2]; (first | (refine hK1 _ ?_; clear hK1 K1) | (refine ⟨?_, hK1 _ ?_⟩ <;> clear hK1 K1; first | (· (simp; done)) | (· (simp +contextual; done)) | (· (simp +contextual; omega)) | (· grind) | skip))
        refine wps_seq_k fun K5 hK5 => ?_
        refine wps_seq_k fun K1 hK1 => wps_regW tab10 wtab8 tab10_ok wtab8_ok ?_; simp only [go_sem, Nat.reduceLeDiff, Nat.reducePow, Nat.reduceSub, Nat.reduceLT, Nat.reduceEqDiff, Nat.reduceAdd, Nat.reduceMul, ↓reduceIte, reduceCtorEq, tab10, t9, tab9, tab8, tab7, tab6, tab5, tab4, tab3, tab2, tab1, tab0, unsl_sl, unsl_nil, t11, t27, t17, t18, t19, t20, t21, t22, t23, t24, t25, deFS_c, deReply_c, deReply_n, deFetch_c, deObj_c, wtab8, w18, w20, w22, und63, nl_len]; (first | (refine hK1 _ ?_; clear hK1 K1) | (refine ⟨?_, hK1 _ ?_⟩ <;> clear hK1 K1; first | (· (simp; done)) | (· (simp +contextual; done)) | (· (simp +contextual; omega)) | (· grind) | skip))
        refine wps_block ?_
        refine wps_count 56 l.length (fun k st' => ∃ p, a ≤ p ∧ p ≤ b ∧ st'.M o = some (.cells [.str fo, .int .i64 fa, .int .i64 fb, .str mt, .bool mw, .str nt, .bool nw, .int .i64 1, .int .i64 p, .int .i64 b]) ∧ st'.fr 9 = .int .i64 p ∧ st'.fr 7 = .ptr o 0 ∧ st'.fr 4 = .box 0 [.int .i64 st, .str t, .bool w, .int .i64 mod, .int .i64 len, .int .i64 have_, .int .i64 fresh, .int .i64 while_, .int .i64 err, .lst (sl keys), .str ten, .bool keep, .int .i64 a, .int .i64 b, .int .i64 age] ∧ st'.fr 54 = .lst (nl l) ∧ st'.fr 55 = .int .i64 l.length) ?_ ?_
        · exact ⟨0, by simp, by simp only [go_sem, Nat.reduceLeDiff, Nat.reducePow, Nat.reduceSub, Nat.reduceLT, Nat.reduceEqDiff, Nat.reduceAdd, Nat.reduceMul, ↓reduceIte, reduceCtorEq, tab10, t9, tab9, tab8, tab7, tab6, tab5, tab4, tab3, tab2, tab1, tab0, unsl_sl, unsl_nil, t11, t27, t17, t18, t19, t20, t21, t22, t23, t24, t25, deFS_c, deReply_c, deReply_n, deFetch_c, deObj_c, wtab8, w18, w20, w22]; rfl, a, by omega, by omega, by simp only [go_sem, Nat.reduceLeDiff, Nat.reducePow, Nat.reduceSub, Nat.reduceLT, Nat.reduceEqDiff, Nat.reduceAdd, Nat.reduceMul, ↓reduceIte, reduceCtorEq, tab10, t9, tab9, tab8, tab7, tab6, tab5, tab4, tab3, tab2, tab1, tab0, unsl_sl, unsl_nil, t11, t27, t17, t18, t19, t20, t21, t22, t23, t24, t25, deFS_c, deReply_c, deReply_n, deFetch_c, deObj_c, wtab8, w18, w20, w22], by simp only [go_sem, Nat.reduceLeDiff, Nat.reducePow, Nat.reduceSub, Nat.reduceLT, Nat.reduceEqDiff, Nat.reduceAdd, Nat.reduceMul, ↓reduceIte, reduceCtorEq, tab10, t9, tab9, tab8, tab7, tab6, tab5, tab4, tab3, tab2, tab1, tab0, unsl_sl, unsl_nil, t11, t27, t17, t18, t19, t20, t21, t22, t23, t24, t25, deFS_c, deReply_c, deReply_n, deFetch_c, deObj_c, wtab8, w18, w20, w22], by simp only [go_sem, Nat.reduceLeDiff, Nat.reducePow, Nat.reduceSub, Nat.reduceLT, Nat.reduceEqDiff, Nat.reduceAdd, Nat.reduceMul, ↓reduceIte, reduceCtorEq, tab10, t9, tab9, tab8, tab7, tab6, tab5, tab4, tab3, tab2, tab1, tab0, unsl_sl, unsl_nil, t11, t27, t17, t18, t19, t20, t21, t22, t23, t24, t25, deFS_c, deReply_c, deReply_n, deFetch_c, deObj_c, wtab8, w18, w20, w22], by simp only [go_sem, Nat.reduceLeDiff, Nat.reducePow, Nat.reduceSub, Nat.reduceLT, Nat.reduceEqDiff, Nat.reduceAdd, Nat.reduceMul, ↓reduceIte, reduceCtorEq, tab10, t9, tab9, tab8, tab7, tab6, tab5, tab4, tab3, tab2, tab1, tab0, unsl_sl, unsl_nil, t11, t27, t17, t18, t19, t20, t21, t22, t23, t24, t25, deFS_c, deReply_c, deReply_n, deFetch_c, deObj_c, wtab8, w18, w20, w22], by simp only [go_sem, Nat.reduceLeDiff, Nat.reducePow, Nat.reduceSub, Nat.reduceLT, Nat.reduceEqDiff, Nat.reduceAdd, Nat.reduceMul, ↓reduceIte, reduceCtorEq, tab10, t9, tab9, tab8, tab7, tab6, tab5, tab4, tab3, tab2, tab1, tab0, unsl_sl, unsl_nil, t11, t27, t17, t18, t19, t20, t21, t22, t23, t24, t25, deFS_c, deReply_c, deReply_n, deFetch_c, deObj_c, wtab8, w18, w20, w22], by simp only [go_sem, Nat.reduceLeDiff, Nat.reducePow, Nat.reduceSub, Nat.reduceLT, Nat.reduceEqDiff, Nat.reduceAdd, Nat.reduceMul, ↓reduceIte, reduceCtorEq, tab10, t9, tab9, tab8, tab7, tab6, tab5, tab4, tab3, tab2, tab1, tab0, unsl_sl, unsl_nil, t11, t27, t17, t18, t19, t20, t21, t22, t23, t24, t25, deFS_c, deReply_c, deReply_n, deFetch_c, deObj_c, wtab8, w18, w20, w22, nl_len]⟩
        · rintro k fr M' gen hk hi ⟨p, hp1, hp2, hm, h9, h7, h4, h54, h55⟩
          simp only at hm h9 h7 h4 h54 h55
          refine wps_seq_k fun K1 hK1 => wps_regW tab10 wtab8 tab10_ok wtab8_ok ?_; simp only [go_sem, Nat.reduceLeDiff, Nat.reducePow, Nat.reduceSub, Nat.reduceLT, Nat.reduceEqDiff, Nat.reduceAdd, Nat.reduceMul, ↓reduceIte, reduceCtorEq, tab10, t9, tab9, tab8, tab7, tab6, tab5, tab4, tab3, tab2, tab1, tab0, unsl_sl, unsl_nil, t11, t27, t17, t18, t19, t20, t21, t22, t23, t24, t25, deFS_c, deReply_c, deReply_n, deFetch_c, deObj_c, wtab8, w18, w20, w22, hi, h55]; (first | (refine hK1 _ ?_; clear hK1 K1) | (refine ⟨?_, hK1 _ ?_⟩ <;> clear hK1 K1; first | (· (simp; done)) | (· (simp +contextual; done)) | (· (simp +contextual; omega)) | (· grind) | skip))
          refine wps_seq_k fun K6 hK6 => ?_
          refine wps_cond (by simp only [go_sem, Nat.reduceLeDiff, Nat.reducePow, Nat.reduceSub, Nat.reduceLT, Nat.reduceEqDiff, Nat.reduceAdd, Nat.reduceMul, ↓reduceIte, reduceCtorEq, tab10, t9, tab9, tab8, tab7, tab6, tab5, tab4, tab3, tab2, tab1, tab0, unsl_sl, unsl_nil, t11, t27, t17, t18, t19, t20, t21, t22, t23, t24, t25, deFS_c, deReply_c, deReply_n, deFetch_c, deObj_c, wtab8, w18, w20, w22]; rfl) (by simp) (fun hb => ?_) (fun hb => ?_)
          · refine hK6 _ ?_; clear hK6 K6
            simp only [decide_eq_true_eq] at hb
            have hk' : k < l.length := by omega
            clear hb
            have hget := nl_get hk'
            revert hget
            generalize l.getD k 0 = n
            intro hget
            refine wps_seq_k fun K7 hK7 => ?_
            refine wps_block ?_
            refine wps_seq_k fun K1 hK1 => wps_regW tab10 wtab8 tab10_ok wtab8_ok ?_; simp only [go_sem, Nat.reduceLeDiff, Nat.reducePow, Nat.reduceSub, Nat.reduceLT, Nat.reduceEqDiff, Nat.reduceAdd, Nat.reduceMul, ↓reduceIte, reduceCtorEq, tab10, t9, tab9, tab8, tab7, tab6, tab5, tab4, tab3, tab2, tab1, tab0, unsl_sl, unsl_nil, t11, t27, t17, t18, t19, t20, t21, t22, t23, t24, t25, deFS_c, deReply_c, deReply_n, deFetch_c, deObj_c, wtab8, w18, w20, w22, ti2, und63, hi, h54, nl_len, hget]; (first | (refine hK1 _ ?_; clear hK1 K1) | (refine ⟨?_, hK1 _ ?_⟩ <;> clear hK1 K1; first | (· (simp; done)) | (· (simp +contextual; done)) | (· (simp +contextual; omega)) | (· grind) | skip))
            by_cases hn1 : 1 ≤ n ∧ n ≤ b - p
            · have hd := data_ok (f := ⟨fo, fa, fb, mt, mw, nt, nw⟩) (by omega) hp2 hsp.2.2 hn1
              refine wps_seq_k fun K1 hK1 => wps_regW tab10 wtab8 tab10_ok wtab8_ok ?_; simp only [go_sem, Nat.reduceLeDiff, Nat.reducePow, Nat.reduceSub, Nat.reduceLT, Nat.reduceEqDiff, Nat.reduceAdd, Nat.reduceMul, ↓reduceIte, reduceCtorEq, tab10, t9, tab9, tab8, tab7, tab6, tab5, tab4, tab3, tab2, tab1, tab0, unsl_sl, unsl_nil, t11, t27, t17, t18, t19, t20, t21, t22, t23, t24, t25, deFS_c, deReply_c, deReply_n, deFetch_c, deObj_c, wtab8, w18, w20, w22, und2, und41, ti23, zero23, h7, hm, hd]; (first | (refine hK1 _ ?_; clear hK1 K1) | (refine ⟨?_, hK1 _ ?_⟩ <;> clear hK1 K1; first | (· (simp; done)) | (· (simp +contextual; done)) | (· (simp +contextual; omega)) | (· grind) | skip))
              refine wps_seq_k fun K8 hK8 => ?_
              refine wps_seq_k fun K1 hK1 => wps_regW tab10 wtab8 tab10_ok wtab8_ok ?_; simp only [go_sem, Nat.reduceLeDiff, Nat.reducePow, Nat.reduceSub, Nat.reduceLT, Nat.reduceEqDiff, Nat.reduceAdd, Nat.reduceMul, ↓reduceIte, reduceCtorEq, tab10, t9, tab9, tab8, tab7, tab6, tab5, tab4, tab3, tab2, tab1, tab0, unsl_sl, unsl_nil, t11, t27, t17, t18, t19, t20, t21, t22, t23, t24, t25, deFS_c, deReply_c, deReply_n, deFetch_c, deObj_c, wtab8, w18, w20, w22]; (first | (refine hK1 _ ?_; clear hK1 K1) | (refine ⟨?_, hK1 _ ?_⟩ <;> clear hK1 K1; first | (· (simp; done)) | (· (simp +contextual; done)) | (· (simp +contextual; omega)) | (· grind) | skip))
              refine wps_cond (by simp only [go_sem, Nat.reduceLeDiff, Nat.reducePow, Nat.reduceSub, Nat.reduceLT, Nat.reduceEqDiff, Nat.reduceAdd, Nat.reduceMul, ↓reduceIte, reduceCtorEq, tab10, t9, tab9, tab8, tab7, tab6, tab5, tab4, tab3, tab2, tab1, tab0, unsl_sl, unsl_nil, t11, t27, t17, t18, t19, t20, t21, t22, t23, t24, t25, deFS_c, deReply_c, deReply_n, deFetch_c, deObj_c, wtab8, w18, w20, w22]; rfl) (by simp) (fun hb => ?_) (fun hb => ?_)
              · exact absurd hb (by decide)
              · refine hK8 _ ?_; clear hK8 K8 hb
                refine wps_seq_k fun K10 hK10 => ?_
                refine wps_seq_k fun K1 hK1 => wps_regW tab10 wtab8 tab10_ok wtab8_ok ?_; simp only [go_sem, Nat.reduceLeDiff, Nat.reducePow, Nat.reduceSub, Nat.reduceLT, Nat.reduceEqDiff, Nat.reduceAdd, Nat.reduceMul, ↓reduceIte, reduceCtorEq, tab10, t9, tab9, tab8, tab7, tab6, tab5, tab4, tab3, tab2, tab1, tab0, unsl_sl, unsl_nil, t11, t27, t17, t18, t19, t20, t21, t22, t23, t24, t25, deFS_c, deReply_c, deReply_n, deFetch_c, deObj_c, wtab8, w18, w20, w22, fi23_0, fi23_1, fi32_2, ti2, h9, h4]; (first | (refine hK1 _ ?_; clear hK1 K1) | (refine ⟨?_, hK1 _ ?_⟩ <;> clear hK1 K1; first | (· (simp; done)) | (· (simp +contextual; done)) | (· (simp +contextual; omega)) | (· grind) | skip))
                refine wps_cond (by simp only [go_sem, Nat.reduceLeDiff, Nat.reducePow, Nat.reduceSub, Nat.reduceLT, Nat.reduceEqDiff, Nat.reduceAdd, Nat.reduceMul, ↓reduceIte, reduceCtorEq, tab10, t9, tab9, tab8, tab7, tab6, tab5, tab4, tab3, tab2, tab1, tab0, unsl_sl, unsl_nil, t11, t27, t17, t18, t19, t20, t21, t22, t23, t24, t25, deFS_c, deReply_c, deReply_n, deFetch_c, deObj_c, wtab8, w18, w20, w22]; rfl) (by simp) (fun hb => ?_) (fun hb => ?_)
                · exfalso
                  clear hK10 hK7 hK5
                  have hw : IntKind.i64.wrap (p + n - p) = n := by rw [IntWalk.i64_in _ (by omega)]; omega
                  rw [hw] at hb
                  have h1 : ¬ n < 1 := by omega
                  have h2 : ¬ p + n > b := by omega
                  simp [h1, h2] at hb
                · refine hK10 _ ?_; clear hK10 K10 hb
                  refine wps_regW tab10 wtab8 tab10_ok wtab8_ok ?_; simp only [go_sem, Nat.reduceLeDiff, Nat.reducePow, Nat.reduceSub, Nat.reduceLT, Nat.reduceEqDiff, Nat.reduceAdd, Nat.reduceMul, ↓reduceIte, reduceCtorEq, tab10, t9, tab9, tab8, tab7, tab6, tab5, tab4, tab3, tab2, tab1, tab0, unsl_sl, unsl_nil, t11, t27, t17, t18, t19, t20, t21, t22, t23, t24, t25, deFS_c, deReply_c, deReply_n, deFetch_c, deObj_c, wtab8, w18, w20, w22, fi23_1, ti2]
                  refine hK7 _ ?_; clear hK7 K7
                  refine wps_regW tab10 wtab8 tab10_ok wtab8_ok ?_; simp only [go_sem, Nat.reduceLeDiff, Nat.reducePow, Nat.reduceSub, Nat.reduceLT, Nat.reduceEqDiff, Nat.reduceAdd, Nat.reduceMul, ↓reduceIte, reduceCtorEq, tab10, t9, tab9, tab8, tab7, tab6, tab5, tab4, tab3, tab2, tab1, tab0, unsl_sl, unsl_nil, t11, t27, t17, t18, t19, t20, t21, t22, t23, t24, t25, deFS_c, deReply_c, deReply_n, deFetch_c, deObj_c, wtab8, w18, w20, w22, hi]
                  refine ⟨hk', ?_, p + n, by omega, by omega, by simp only [updH_self], rfl, h7, h4, h54, h55⟩
                  rw [IntWalk.i64_in _ (by omega)]
            · obtain ⟨e, he, hd⟩ := data_bad (f := ⟨fo, fa, fb, mt, mw, nt, nw⟩) (n := n) (by omega) hp2 hsp.2.2 hn1
              refine wps_seq_k fun K1 hK1 => wps_regW tab10 wtab8 tab10_ok wtab8_ok ?_; simp only [go_sem, Nat.reduceLeDiff, Nat.reducePow, Nat.reduceSub, Nat.reduceLT, Nat.reduceEqDiff, Nat.reduceAdd, Nat.reduceMul, ↓reduceIte, reduceCtorEq, tab10, t9, tab9, tab8, tab7, tab6, tab5, tab4, tab3, tab2, tab1, tab0, unsl_sl, unsl_nil, t11, t27, t17, t18, t19, t20, t21, t22, t23, t24, t25, deFS_c, deReply_c, deReply_n, deFetch_c, deObj_c, wtab8, w18, w20, w22, und2, und41, ti23, zero23, h7, hm, hd]; (first | (refine hK1 _ ?_; clear hK1 K1) | (refine ⟨?_, hK1 _ ?_⟩ <;> clear hK1 K1; first | (· (simp; done)) | (· (simp +contextual; done)) | (· (simp +contextual; omega)) | (· grind) | skip))
              refine wps_seq_k fun K8 hK8 => ?_
              refine wps_seq_k fun K1 hK1 => wps_regW tab10 wtab8 tab10_ok wtab8_ok ?_; simp only [go_sem, Nat.reduceLeDiff, Nat.reducePow, Nat.reduceSub, Nat.reduceLT, Nat.reduceEqDiff, Nat.reduceAdd, Nat.reduceMul, ↓reduceIte, reduceCtorEq, tab10, t9, tab9, tab8, tab7, tab6, tab5, tab4, tab3, tab2, tab1, tab0, unsl_sl, unsl_nil, t11, t27, t17, t18, t19, t20, t21, t22, t23, t24, t25, deFS_c, deReply_c, deReply_n, deFetch_c, deObj_c, wtab8, w18, w20, w22]; (first | (refine hK1 _ ?_; clear hK1 K1) | (refine ⟨?_, hK1 _ ?_⟩ <;> clear hK1 K1; first | (· (simp; done)) | (· (simp +contextual; done)) | (· (simp +contextual; omega)) | (· grind) | skip))
              refine wps_cond (by simp only [go_sem, Nat.reduceLeDiff, Nat.reducePow, Nat.reduceSub, Nat.reduceLT, Nat.reduceEqDiff, Nat.reduceAdd, Nat.reduceMul, ↓reduceIte, reduceCtorEq, tab10, t9, tab9, tab8, tab7, tab6, tab5, tab4, tab3, tab2, tab1, tab0, unsl_sl, unsl_nil, t11, t27, t17, t18, t19, t20, t21, t22, t23, t24, t25, deFS_c, deReply_c, deReply_n, deFetch_c, deObj_c, wtab8, w18, w20, w22]; rfl) (by simp) (fun hb => ?_) (fun hb => ?_)
              · refine wps_seq_k fun K9 hK9 => ?_
                refine wps_seq_k fun K1 hK1 => wps_regW tab10 wtab8 tab10_ok wtab8_ok ?_; simp only [go_sem, Nat.reduceLeDiff, Nat.reducePow, Nat.reduceSub, Nat.reduceLT, Nat.reduceEqDiff, Nat.reduceAdd, Nat.reduceMul, ↓reduceIte, reduceCtorEq, tab10, t9, tab9, tab8, tab7, tab6, tab5, tab4, tab3, tab2, tab1, tab0, unsl_sl, unsl_nil, t11, t27, t17, t18, t19, t20, t21, t22, t23, t24, t25, deFS_c, deReply_c, deReply_n, deFetch_c, deObj_c, wtab8, w18, w20, w22, fi23_1, fi32_2, ti2, h9, h4]; (first | (refine hK1 _ ?_; clear hK1 K1) | (refine ⟨?_, hK1 _ ?_⟩ <;> clear hK1 K1; first | (· (simp; done)) | (· (simp +contextual; done)) | (· (simp +contextual; omega)) | (· grind) | skip))
                refine wps_cond (by simp only [go_sem, Nat.reduceLeDiff, Nat.reducePow, Nat.reduceSub, Nat.reduceLT, Nat.reduceEqDiff, Nat.reduceAdd, Nat.reduceMul, ↓reduceIte, reduceCtorEq, tab10, t9, tab9, tab8, tab7, tab6, tab5, tab4, tab3, tab2, tab1, tab0, unsl_sl, unsl_nil, t11, t27, t17, t18, t19, t20, t21, t22, t23, t24, t25, deFS_c, deReply_c, deReply_n, deFetch_c, deObj_c, wtab8, w18, w20, w22]; rfl) (by simp) (fun hb => ?_) (fun hb => ?_)
                · exfalso
                  clear hK9 hK8 hK7 hK5
                  have hw : IntKind.i64.wrap (b - p) = b - p := IntWalk.i64_in _ (by omega)
                  rw [hw] at hb
                  simp at hb
                  omega
                · refine hK9 _ ?_; clear hK9 K9
                  refine hK7 _ ?_; clear hK8 K8 hK7 K7
                  refine wps_regW tab10 wtab8 tab10_ok wtab8_ok ?_; simp only [go_sem, Nat.reduceLeDiff, Nat.reducePow, Nat.reduceSub, Nat.reduceLT, Nat.reduceEqDiff, Nat.reduceAdd, Nat.reduceMul, ↓reduceIte, reduceCtorEq, tab10, t9, tab9, tab8, tab7, tab6, tab5, tab4, tab3, tab2, tab1, tab0, unsl_sl, unsl_nil, t11, t27, t17, t18, t19, t20, t21, t22, t23, t24, t25, deFS_c, deReply_c, deReply_n, deFetch_c, deObj_c, wtab8, w18, w20, w22, hi]
                  refine ⟨hk', ?_, p, by omega, by omega, by simp only [updH_self], h9, h7, h4, h54, h55⟩
                  rw [IntWalk.i64_in _ (by omega)]
              · simp [he] at hb
          · refine hK5 _ ?_; clear hK6 K6 hK5 K5 hb
            by_cases hpb : p = b
            · have hr : restF ⟨⟨fo, fa, fb, mt, mw, nt, nw⟩, 1, p, b⟩ = ((0, 0), false) := by simp [restF, hpb]
              have hc : closeF ⟨⟨fo, fa, fb, mt, mw, nt, nw⟩, 1, p, b⟩ true = (⟨⟨fo, fa, fb, mt, mw, nt, nw⟩, 2, p, b⟩, 0) := by simp [closeF, hpb]
              refine wps_seq_k fun K1 hK1 => wps_regW tab10 wtab8 tab10_ok wtab8_ok ?_; simp only [go_sem, Nat.reduceLeDiff, Nat.reducePow, Nat.reduceSub, Nat.reduceLT, Nat.reduceEqDiff, Nat.reduceAdd, Nat.reduceMul, ↓reduceIte, reduceCtorEq, tab10, t9, tab9, tab8, tab7, tab6, tab5, tab4, tab3, tab2, tab1, tab0, unsl_sl, unsl_nil, t11, t27, t17, t18, t19, t20, t21, t22, t23, t24, t25, deFS_c, deReply_c, deReply_n, deFetch_c, deObj_c, wtab8, w18, w20, w22, und41, ti23, zero23, h7, hm, hr]; (first | (refine hK1 _ ?_; clear hK1 K1) | (refine ⟨?_, hK1 _ ?_⟩ <;> clear hK1 K1; first | (· (simp; done)) | (· (simp +contextual; done)) | (· (simp +contextual; omega)) | (· grind) | skip))
              refine wps_seq_k fun K11 hK11 => ?_
              refine wps_seq_k fun K1 hK1 => wps_regW tab10 wtab8 tab10_ok wtab8_ok ?_; simp only [go_sem, Nat.reduceLeDiff, Nat.reducePow, Nat.reduceSub, Nat.reduceLT, Nat.reduceEqDiff, Nat.reduceAdd, Nat.reduceMul, ↓reduceIte, reduceCtorEq, tab10, t9, tab9, tab8, tab7, tab6, tab5, tab4, tab3, tab2, tab1, tab0, unsl_sl, unsl_nil, t11, t27, t17, t18, t19, t20, t21, t22, t23, t24, t25, deFS_c, deReply_c, deReply_n, deFetch_c, deObj_c, wtab8, w18, w20, w22, eq4, fi23_0, fi23_1, fi32_2, ti2, h9, h4]; (first | (refine hK1 _ ?_; clear hK1 K1) | (refine ⟨?_, hK1 _ ?_⟩ <;> clear hK1 K1; first | (· (simp; done)) | (· (simp +contextual; done)) | (· (simp +contextual; omega)) | (· grind) | skip))
              refine wps_cond (by simp only [go_sem, Nat.reduceLeDiff, Nat.reducePow, Nat.reduceSub, Nat.reduceLT, Nat.reduceEqDiff, Nat.reduceAdd, Nat.reduceMul, ↓reduceIte, reduceCtorEq, tab10, t9, tab9, tab8, tab7, tab6, tab5, tab4, tab3, tab2, tab1, tab0, unsl_sl, unsl_nil, t11, t27, t17, t18, t19, t20, t21, t22, t23, t24, t25, deFS_c, deReply_c, deReply_n, deFetch_c, deObj_c, wtab8, w18, w20, w22]; rfl) (by simp) (fun hb => ?_) (fun hb => ?_)
              · exfalso
                simp [hpb] at hb
              · refine hK11 _ ?_; clear hK11 K11 hb
                refine wps_seq_k fun K1 hK1 => wps_drawM tab10 wtab8 [] tab10_ok wtab8_ok (by kernel_rfl) rfl (by kernel_rfl) (by kernel_rfl) (by simp only [wtab8, go_sem, Nat.reduceLeDiff, Nat.reducePow, Nat.reduceSub, Nat.reduceLT, Nat.reduceEqDiff, Nat.reduceAdd, Nat.reduceMul, ↓reduceIte, reduceCtorEq, tab10, t9, tab9, tab8, tab7, tab6, tab5, tab4, tab3, tab2, tab1, tab0, unsl_sl, unsl_nil, t11, t27, t17, t18, t19, t20, t21, t22, t23, t24, t25, deFS_c, deReply_c, deReply_n, deFetch_c, deObj_c, wtab8, w18, w20, w22, eq4, fi23_1, fi32_2, ti2, und4, und41, h7, hm, h9, h4, hc]; rfl) ?_; (first | (refine hK1 _ ?_; clear hK1 K1) | (refine ⟨?_, hK1 _ ?_⟩ <;> clear hK1 K1; first | (· (simp; done)) | (· (simp +contextual; done)) | (· (simp +contextual; omega)) | (· grind) | skip))
                simp only [wps, endQ, resV, resVs, resV1, go_sem, Nat.reduceLeDiff, Nat.reducePow, Nat.reduceSub, Nat.reduceLT, Nat.reduceEqDiff, Nat.reduceAdd, Nat.reduceMul, ↓reduceIte, reduceCtorEq, tab10, t9, tab9, tab8, tab7, tab6, tab5, tab4, tab3, tab2, tab1, tab0, unsl_sl, unsl_nil, t11, t27, t17, t18, t19, t20, t21, t22, t23, t24, t25, deFS_c, deReply_c, deReply_n, deFetch_c, deObj_c, wtab8, w18, w20, w22]
                simp [hpb]
            · have hr : restF ⟨⟨fo, fa, fb, mt, mw, nt, nw⟩, 1, p, b⟩ = ((p, b), true) := by simp [restF, hpb]
              rcases hc : closeF ⟨⟨fo, fa, fb, mt, mw, nt, nw⟩, 1, p, b⟩ true with ⟨⟨⟨zo, za, zb, zmt, zmw, znt, znw⟩, zs, zc, zd⟩, q2⟩
              have hq2 : q2 = if b = 4611686018427387904 then 0 else 13 := by
                have := congrArg (·.2) hc
                simp [closeF, hpb] at this
                rw [← this]
              refine wps_seq_k fun K1 hK1 => wps_regW tab10 wtab8 tab10_ok wtab8_ok ?_; simp only [go_sem, Nat.reduceLeDiff, Nat.reducePow, Nat.reduceSub, Nat.reduceLT, Nat.reduceEqDiff, Nat.reduceAdd, Nat.reduceMul, ↓reduceIte, reduceCtorEq, tab10, t9, tab9, tab8, tab7, tab6, tab5, tab4, tab3, tab2, tab1, tab0, unsl_sl, unsl_nil, t11, t27, t17, t18, t19, t20, t21, t22, t23, t24, t25, deFS_c, deReply_c, deReply_n, deFetch_c, deObj_c, wtab8, w18, w20, w22, und41, ti23, zero23, h7, hm, hr]; (first | (refine hK1 _ ?_; clear hK1 K1) | (refine ⟨?_, hK1 _ ?_⟩ <;> clear hK1 K1; first | (· (simp; done)) | (· (simp +contextual; done)) | (· (simp +contextual; omega)) | (· grind) | skip))
              refine wps_seq_k fun K11 hK11 => ?_
              refine wps_seq_k fun K1 hK1 => wps_regW tab10 wtab8 tab10_ok wtab8_ok ?_; simp only [go_sem, Nat.reduceLeDiff, Nat.reducePow, Nat.reduceSub, Nat.reduceLT, Nat.reduceEqDiff, Nat.reduceAdd, Nat.reduceMul, ↓reduceIte, reduceCtorEq, tab10, t9, tab9, tab8, tab7, tab6, tab5, tab4, tab3, tab2, tab1, tab0, unsl_sl, unsl_nil, t11, t27, t17, t18, t19, t20, t21, t22, t23, t24, t25, deFS_c, deReply_c, deReply_n, deFetch_c, deObj_c, wtab8, w18, w20, w22, eq4, fi23_0, fi23_1, fi32_2, ti2, h9, h4]; (first | (refine hK1 _ ?_; clear hK1 K1) | (refine ⟨?_, hK1 _ ?_⟩ <;> clear hK1 K1; first | (· (simp; done)) | (· (simp +contextual; done)) | (· (simp +contextual; omega)) | (· grind) | skip))
              refine wps_cond (by simp only [go_sem, Nat.reduceLeDiff, Nat.reducePow, Nat.reduceSub, Nat.reduceLT, Nat.reduceEqDiff, Nat.reduceAdd, Nat.reduceMul, ↓reduceIte, reduceCtorEq, tab10, t9, tab9, tab8, tab7, tab6, tab5, tab4, tab3, tab2, tab1, tab0, unsl_sl, unsl_nil, t11, t27, t17, t18, t19, t20, t21, t22, t23, t24, t25, deFS_c, deReply_c, deReply_n, deFetch_c, deObj_c, wtab8, w18, w20, w22]; rfl) (by simp) (fun hb => ?_) (fun hb => ?_)
              · exfalso
                have h1 : p < b := by omega
                simp [hpb, h1] at hb
              · refine hK11 _ ?_; clear hK11 K11 hb
                refine wps_seq_k fun K1 hK1 => wps_drawM tab10 wtab8 [] tab10_ok wtab8_ok (by kernel_rfl) rfl (by kernel_rfl) (by kernel_rfl) (by simp only [wtab8, go_sem, Nat.reduceLeDiff, Nat.reducePow, Nat.reduceSub, Nat.reduceLT, Nat.reduceEqDiff, Nat.reduceAdd, Nat.reduceMul, ↓reduceIte, reduceCtorEq, tab10, t9, tab9, tab8, tab7, tab6, tab5, tab4, tab3, tab2, tab1, tab0, unsl_sl, unsl_nil, t11, t27, t17, t18, t19, t20, t21, t22, t23, t24, t25, deFS_c, deReply_c, deReply_n, deFetch_c, deObj_c, wtab8, w18, w20, w22, eq4, fi23_1, fi32_2, ti2, und4, und41, h7, hm, h9, h4, hc]; rfl) ?_; (first | (refine hK1 _ ?_; clear hK1 K1) | (refine ⟨?_, hK1 _ ?_⟩ <;> clear hK1 K1; first | (· (simp; done)) | (· (simp +contextual; done)) | (· (simp +contextual; omega)) | (· grind) | skip))
                simp only [wps, endQ, resV, resVs, resV1, go_sem, Nat.reduceLeDiff, Nat.reducePow, Nat.reduceSub, Nat.reduceLT, Nat.reduceEqDiff, Nat.reduceAdd, Nat.reduceMul, ↓reduceIte, reduceCtorEq, tab10, t9, tab9, tab8, tab7, tab6, tab5, tab4, tab3, tab2, tab1, tab0, unsl_sl, unsl_nil, t11, t27, t17, t18, t19, t20, t21, t22, t23, t24, t25, deFS_c, deReply_c, deReply_n, deFetch_c, deObj_c, wtab8, w18, w20, w22]
                rw [hq2]
                by_cases hbo : b = 4611686018427387904
                · simp [hbo]
                · simp [hbo, hpb]
end Go.Eng.Try
