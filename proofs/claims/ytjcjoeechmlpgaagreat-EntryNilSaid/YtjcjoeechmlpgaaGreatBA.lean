/- Contracts: loops over bytes. -/
import Derived.Test.YtjcjoeechmlpgaaGreatCA
import Derived.Test.YtjcjoeechmlpgaaGreatGA
namespace Go.Eng.Tryz
open Go.Proofs
attribute [local go_sem] oss_nil_eq Int.toNat_natCast maxLen Nat.zero_le run step opv slotV opvs dstLt evalQ constV isA setD upd_app guardB List.getD_cons_zero List.getD_cons_succ List.getD_nil V.tag V.cells decide_true decide_false Bool.false_eq_true if_false if_true ne_eq Nat.one_ne_zero not_false_eq_true keyKind cellOk List.forall_mem_cons List.not_mem_nil false_implies true_and and_true implies_true forall_const bump addrAdd loadA loadV part opV binV eqlV eqOk pickV unV convV boundV fillV storeTo splice List.getElem?_cons_zero List.getElem?_cons_succ List.take_succ_cons List.take_zero List.drop_succ_cons List.drop_zero List.length_cons List.length_nil List.cons_append List.nil_append List.append_nil List.getElem_toArray List.getElem?_toArray List.size_toArray and_self eqV_tupl eqV_tupr fbt tbf beq_self_eq_true Bool.not_false Bool.not_true cond_true cond_false newVarW updH_self updH_updH isFuncFn runT stepT stepC isCallV callOf callV escL memN runW stepW stepCW runD stepD safeB slots ownS stepOwn reads runM stepM emptyH softEq V.soft softs readSl chunks partsV delKV slice0V stepE runE
set_option linter.unusedSimpArgs false
set_option linter.unusedVariables false

theorem s129 (x y : Int) (M : Heap) : Pure Tryz.prog 129 [.agg [.int .i64 x, .int .i64 y]] M (.bool (decide (0 ≤ x) && (decide (x ≤ y) && decide (y ≤ 4611686018427387904)))) := by
  refine Spec.strip (fun _ => false) ok129 (by simp) ?_
  unfold c129
  refine wps_seq_k fun K1 hK1 => wps_reg ?_; simp only [go_sem, Nat.reduceLeDiff, Nat.reducePow, Nat.reduceSub, Nat.reduceLT, Nat.reduceEqDiff, Nat.reduceAdd, Nat.reduceMul, ↓reduceIte, reduceCtorEq]; (first | (refine hK1 _ ?_; clear hK1 K1) | (refine ⟨?_, hK1 _ ?_⟩ <;> clear hK1 K1; first | (· (simp; done)) | (· (simp +contextual; done)) | (· (simp +contextual; omega)) | (· grind) | skip))
  refine wps_seq_k fun K1 hK1 => wps_reg ?_; simp only [go_sem, Nat.reduceLeDiff, Nat.reducePow, Nat.reduceSub, Nat.reduceLT, Nat.reduceEqDiff, Nat.reduceAdd, Nat.reduceMul, ↓reduceIte, reduceCtorEq, fi41_0, fi41_1, ti2]; (first | (refine hK1 _ ?_; clear hK1 K1) | (refine ⟨?_, hK1 _ ?_⟩ <;> clear hK1 K1; first | (· (simp; done)) | (· (simp +contextual; done)) | (· (simp +contextual; omega)) | (· grind) | skip))
  simp only [wps, endQ, resV, resVs, resV1, go_sem, Nat.reduceLeDiff, Nat.reducePow, Nat.reduceSub, Nat.reduceLT, Nat.reduceEqDiff, Nat.reduceAdd, Nat.reduceMul, ↓reduceIte, reduceCtorEq]
  simp [Bool.and_assoc]

theorem objectQ_all {s : B} (h : s.all vis = false) : objectQ s = false := by unfold objectQ; simp [h]

theorem s74 (s : B) (M : Heap) : Pure Tryz.prog 74 [.str s] M (.bool (objectQ s)) := by
  refine Spec.strip' (fun _ => false) ok74 (by simp) (fun hlen => ?_)
  have hlen : s.length ≤ 9223372036854775807 := by simpa [lensOk, lenOk, maxLen] using hlen
  unfold c74
  refine wps_seq_k fun K1 hK1 => wps_reg ?_; simp only [go_sem, Nat.reduceLeDiff, Nat.reducePow, Nat.reduceSub, Nat.reduceLT, Nat.reduceEqDiff, Nat.reduceAdd, Nat.reduceMul, ↓reduceIte, reduceCtorEq]; (first | (refine hK1 _ ?_; clear hK1 K1) | (refine ⟨?_, hK1 _ ?_⟩ <;> clear hK1 K1; first | (· (simp; done)) | (· (simp +contextual; done)) | (· (simp +contextual; omega)) | (· grind) | skip))
  refine wps_seq_k fun K2 hK2 => ?_
  refine wps_seq_k fun K1 hK1 => wps_reg ?_; simp only [go_sem, Nat.reduceLeDiff, Nat.reducePow, Nat.reduceSub, Nat.reduceLT, Nat.reduceEqDiff, Nat.reduceAdd, Nat.reduceMul, ↓reduceIte, reduceCtorEq, und9]; (first | (refine hK1 _ ?_; clear hK1 K1) | (refine ⟨?_, hK1 _ ?_⟩ <;> clear hK1 K1; first | (· (simp; done)) | (· (simp +contextual; done)) | (· (simp +contextual; omega)) | (· grind) | skip))
  · simp; intro h1 h2; simp [h1, h2]; exact List.length_pos_iff.2 h1
  refine wps_cond (by simp only [go_sem, Nat.reduceLeDiff, Nat.reducePow, Nat.reduceSub, Nat.reduceLT, Nat.reduceEqDiff, Nat.reduceAdd, Nat.reduceMul, ↓reduceIte, reduceCtorEq]; rfl) (by simp) (fun hb => ?_) (fun hb => ?_)
  · refine wps_seq_k fun K1 hK1 => wps_reg ?_; simp only [go_sem, Nat.reduceLeDiff, Nat.reducePow, Nat.reduceSub, Nat.reduceLT, Nat.reduceEqDiff, Nat.reduceAdd, Nat.reduceMul, ↓reduceIte, reduceCtorEq]; (first | (refine hK1 _ ?_; clear hK1 K1) | (refine ⟨?_, hK1 _ ?_⟩ <;> clear hK1 K1; first | (· (simp; done)) | (· (simp +contextual; done)) | (· (simp +contextual; omega)) | (· grind) | skip))
    simp only [wps, endQ, resV, resVs, resV1, go_sem, Nat.reduceLeDiff, Nat.reducePow, Nat.reduceSub, Nat.reduceLT, Nat.reduceEqDiff, Nat.reduceAdd, Nat.reduceMul, ↓reduceIte, reduceCtorEq]
    simp only [true_and, and_true, V.bool.injEq]
    simp [List.length_pos_iff] at hb ⊢
    symm
    unfold objectQ
    simp [List.length_pos_iff]
    intro h1 h2 h3
    rw [h3] at hb
    simp [h1] at hb
    omega
  · refine hK2 _ ?_
    clear hK2 K2
    have hb1 := hb; clear hb
    refine wps_seq_k fun K2 hK2 => ?_
    refine wps_seq_k fun K1 hK1 => wps_reg ?_; simp only [go_sem, Nat.reduceLeDiff, Nat.reducePow, Nat.reduceSub, Nat.reduceLT, Nat.reduceEqDiff, Nat.reduceAdd, Nat.reduceMul, ↓reduceIte, reduceCtorEq, und9]; (first | (refine hK1 _ ?_; clear hK1 K1) | (refine ⟨?_, hK1 _ ?_⟩ <;> clear hK1 K1; first | (· (simp; done)) | (· (simp +contextual; done)) | (· (simp +contextual; omega)) | (· grind) | skip))
    refine wps_block (wps_count 18 s.length (fun k st => (s.take k).all vis = true ∧ st.M = M ∧ st.fr 0 = .str s ∧ st.fr 17 = .int .i64 s.length) ?_ ?_)
    · exact ⟨0, by simp, by simp only [go_sem, Nat.reduceLeDiff, Nat.reducePow, Nat.reduceSub, Nat.reduceLT, Nat.reduceEqDiff, Nat.reduceAdd, Nat.reduceMul, ↓reduceIte, reduceCtorEq]; rfl, by simp, by simp only [go_sem, Nat.reduceLeDiff, Nat.reducePow, Nat.reduceSub, Nat.reduceLT, Nat.reduceEqDiff, Nat.reduceAdd, Nat.reduceMul, ↓reduceIte, reduceCtorEq], by simp only [go_sem, Nat.reduceLeDiff, Nat.reducePow, Nat.reduceSub, Nat.reduceLT, Nat.reduceEqDiff, Nat.reduceAdd, Nat.reduceMul, ↓reduceIte, reduceCtorEq], by simp only [go_sem, Nat.reduceLeDiff, Nat.reducePow, Nat.reduceSub, Nat.reduceLT, Nat.reduceEqDiff, Nat.reduceAdd, Nat.reduceMul, ↓reduceIte, reduceCtorEq]⟩
    · rintro k fr M' gen hk h18 ⟨hall, hM, h0, h17⟩
      simp only at hM h0 h17; subst hM
      refine wps_seq_k fun K1 hK1 => wps_reg ?_; simp only [go_sem, Nat.reduceLeDiff, Nat.reducePow, Nat.reduceSub, Nat.reduceLT, Nat.reduceEqDiff, Nat.reduceAdd, Nat.reduceMul, ↓reduceIte, reduceCtorEq, h18, h17]; (first | (refine hK1 _ ?_; clear hK1 K1) | (refine ⟨?_, hK1 _ ?_⟩ <;> clear hK1 K1; first | (· (simp; done)) | (· (simp +contextual; done)) | (· (simp +contextual; omega)) | (· grind) | skip))
      refine wps_seq_k fun K3 hK3 => ?_
      refine wps_cond (by simp only [go_sem, Nat.reduceLeDiff, Nat.reducePow, Nat.reduceSub, Nat.reduceLT, Nat.reduceEqDiff, Nat.reduceAdd, Nat.reduceMul, ↓reduceIte, reduceCtorEq]; rfl) (by simp) (fun hb => ?_) (fun hb => ?_)
      · refine hK3 _ ?_; clear hK3 K3
        simp only [decide_eq_true_eq] at hb
        have hk' : k < s.length := by omega
        refine wps_seq_k fun K3 hK3 => wps_block ?_
        refine wps_seq_k fun K1 hK1 => wps_reg ?_; simp only [go_sem, Nat.reduceLeDiff, Nat.reducePow, Nat.reduceSub, Nat.reduceLT, Nat.reduceEqDiff, Nat.reduceAdd, Nat.reduceMul, ↓reduceIte, reduceCtorEq, h18, h17, h0]; (first | (refine hK1 _ ?_; clear hK1 K1) | (refine ⟨?_, hK1 _ ?_⟩ <;> clear hK1 K1; first | (· (simp; done)) | (· (simp +contextual; done)) | (· (simp +contextual; omega)) | (· grind) | skip))
        refine wps_seq_k fun K1 hK1 => wps_reg ?_; simp only [go_sem, Nat.reduceLeDiff, Nat.reducePow, Nat.reduceSub, Nat.reduceLT, Nat.reduceEqDiff, Nat.reduceAdd, Nat.reduceMul, ↓reduceIte, reduceCtorEq, h18, h17, h0, und9]; (first | (refine hK1 _ ?_; clear hK1 K1) | (refine ⟨?_, hK1 _ ?_⟩ <;> clear hK1 K1; first | (· (simp; done)) | (· (simp +contextual; done)) | (· (simp +contextual; omega)) | (· grind) | skip))
        refine wps_cond (by simp only [go_sem, Nat.reduceLeDiff, Nat.reducePow, Nat.reduceSub, Nat.reduceLT, Nat.reduceEqDiff, Nat.reduceAdd, Nat.reduceMul, ↓reduceIte, reduceCtorEq]; rfl) (by simp) (fun hb => ?_) (fun hb => ?_)
        · refine wps_seq_k fun K1 hK1 => wps_reg ?_; simp only [go_sem, Nat.reduceLeDiff, Nat.reducePow, Nat.reduceSub, Nat.reduceLT, Nat.reduceEqDiff, Nat.reduceAdd, Nat.reduceMul, ↓reduceIte, reduceCtorEq]; (first | (refine hK1 _ ?_; clear hK1 K1) | (refine ⟨?_, hK1 _ ?_⟩ <;> clear hK1 K1; first | (· (simp; done)) | (· (simp +contextual; done)) | (· (simp +contextual; omega)) | (· grind) | skip))
          simp only [wps, endQ, resV, resVs, resV1, go_sem, Nat.reduceLeDiff, Nat.reducePow, Nat.reduceSub, Nat.reduceLT, Nat.reduceEqDiff, Nat.reduceAdd, Nat.reduceMul, ↓reduceIte, reduceCtorEq]
          simp only [true_and, and_true, V.bool.injEq]
          refine (objectQ_all (not_all hk' ?_)).symm
          simp [vis] at hb ⊢
          omega
        · refine hK3 _ ?_; clear hK3 K3
          refine wps_reg ?_; simp only [go_sem, Nat.reduceLeDiff, Nat.reducePow, Nat.reduceSub, Nat.reduceLT, Nat.reduceEqDiff, Nat.reduceAdd, Nat.reduceMul, ↓reduceIte, reduceCtorEq, h18]
          refine ⟨hk', ?_, ?_, h0, h17⟩
          · rw [IntWalk.i64_in _ (by omega)]
          · refine all_take_succ hall hk' ?_
            simp [vis] at hb ⊢
            omega
      · refine hK2 _ ?_
        clear hK3 K3 hK2 K2
        refine wps_seq_k fun K1 hK1 => wps_reg ?_; simp only [go_sem, Nat.reduceLeDiff, Nat.reducePow, Nat.reduceSub, Nat.reduceLT, Nat.reduceEqDiff, Nat.reduceAdd, Nat.reduceMul, ↓reduceIte, reduceCtorEq]; (first | (refine hK1 _ ?_; clear hK1 K1) | (refine ⟨?_, hK1 _ ?_⟩ <;> clear hK1 K1; first | (· (simp; done)) | (· (simp +contextual; done)) | (· (simp +contextual; omega)) | (· grind) | skip))
        simp only [wps, endQ, resV, resVs, resV1, go_sem, Nat.reduceLeDiff, Nat.reducePow, Nat.reduceSub, Nat.reduceLT, Nat.reduceEqDiff, Nat.reduceAdd, Nat.reduceMul, ↓reduceIte, reduceCtorEq]
        have hall := all_done hall hk hb
        simp only [true_and, and_true, V.bool.injEq, objectQ, hall]
        simp at hb1
        simp [List.length_pos_iff]
        have := hb1.2
        refine ⟨⟨hb1.1.1, by omega⟩, by omega⟩

theorem s93 (s : B) (M : Heap) : Pure Tryz.prog 93 [.str s] M (.bool (objectQ s)) := by
  refine Spec.strip' (fun _ => false) ok93 (by simp) (fun hlen => ?_)
  have hlen : s.length ≤ 9223372036854775807 := by simpa [lensOk, lenOk, maxLen] using hlen
  unfold c93
  refine wps_seq_k fun K1 hK1 => wps_reg ?_; simp only [go_sem, Nat.reduceLeDiff, Nat.reducePow, Nat.reduceSub, Nat.reduceLT, Nat.reduceEqDiff, Nat.reduceAdd, Nat.reduceMul, ↓reduceIte, reduceCtorEq]; (first | (refine hK1 _ ?_; clear hK1 K1) | (refine ⟨?_, hK1 _ ?_⟩ <;> clear hK1 K1; first | (· (simp; done)) | (· (simp +contextual; done)) | (· (simp +contextual; omega)) | (· grind) | skip))
  refine wps_seq_k fun K2 hK2 => ?_
  refine wps_seq_k fun K1 hK1 => wps_reg ?_; simp only [go_sem, Nat.reduceLeDiff, Nat.reducePow, Nat.reduceSub, Nat.reduceLT, Nat.reduceEqDiff, Nat.reduceAdd, Nat.reduceMul, ↓reduceIte, reduceCtorEq, und9]; (first | (refine hK1 _ ?_; clear hK1 K1) | (refine ⟨?_, hK1 _ ?_⟩ <;> clear hK1 K1; first | (· (simp; done)) | (· (simp +contextual; done)) | (· (simp +contextual; omega)) | (· grind) | skip))
  refine wps_cond (by simp only [go_sem, Nat.reduceLeDiff, Nat.reducePow, Nat.reduceSub, Nat.reduceLT, Nat.reduceEqDiff, Nat.reduceAdd, Nat.reduceMul, ↓reduceIte, reduceCtorEq]; rfl) (by simp) (fun hb => ?_) (fun hb => ?_)
  · refine wps_seq_k fun K1 hK1 => wps_reg ?_; simp only [go_sem, Nat.reduceLeDiff, Nat.reducePow, Nat.reduceSub, Nat.reduceLT, Nat.reduceEqDiff, Nat.reduceAdd, Nat.reduceMul, ↓reduceIte, reduceCtorEq]; (first | (refine hK1 _ ?_; clear hK1 K1) | (refine ⟨?_, hK1 _ ?_⟩ <;> clear hK1 K1; first | (· (simp; done)) | (· (simp +contextual; done)) | (· (simp +contextual; omega)) | (· grind) | skip))
    simp only [wps, endQ, resV, resVs, resV1, go_sem, Nat.reduceLeDiff, Nat.reducePow, Nat.reduceSub, Nat.reduceLT, Nat.reduceEqDiff, Nat.reduceAdd, Nat.reduceMul, ↓reduceIte, reduceCtorEq]
    simp only [true_and, and_true, V.bool.injEq]
    symm
    unfold objectQ
    simp at hb ⊢
    intro h1 h2 h3
    omega
  · refine hK2 _ ?_; clear hK2 K2
    have hb1 := hb; clear hb
    refine wps_seq_k fun K3 hK3 => ?_
    refine wps_seq_k fun K1 hK1 => wps_reg ?_; simp only [go_sem, Nat.reduceLeDiff, Nat.reducePow, Nat.reduceSub, Nat.reduceLT, Nat.reduceEqDiff, Nat.reduceAdd, Nat.reduceMul, ↓reduceIte, reduceCtorEq]; (first | (refine hK1 _ ?_; clear hK1 K1) | (refine ⟨?_, hK1 _ ?_⟩ <;> clear hK1 K1; first | (· (simp; done)) | (· (simp +contextual; done)) | (· (simp +contextual; omega)) | (· grind) | skip))
    refine wps_block (wps_count 3 s.length (fun k st => (s.take k).all vis = true ∧ st.M = M ∧ st.fr 0 = .str s) ?_ ?_)
    · exact ⟨0, by simp, by simp only [go_sem, Nat.reduceLeDiff, Nat.reducePow, Nat.reduceSub, Nat.reduceLT, Nat.reduceEqDiff, Nat.reduceAdd, Nat.reduceMul, ↓reduceIte, reduceCtorEq]; rfl, by simp, by simp only [go_sem, Nat.reduceLeDiff, Nat.reducePow, Nat.reduceSub, Nat.reduceLT, Nat.reduceEqDiff, Nat.reduceAdd, Nat.reduceMul, ↓reduceIte, reduceCtorEq], by simp only [go_sem, Nat.reduceLeDiff, Nat.reducePow, Nat.reduceSub, Nat.reduceLT, Nat.reduceEqDiff, Nat.reduceAdd, Nat.reduceMul, ↓reduceIte, reduceCtorEq]⟩
    · rintro k fr M' gen hk hi ⟨hall, hM, h0⟩
      simp only at hM hi h0; subst hM
      refine wps_seq_k fun K4 hK4 => ?_
      refine wps_seq_k fun K1 hK1 => wps_reg ?_; simp only [go_sem, Nat.reduceLeDiff, Nat.reducePow, Nat.reduceSub, Nat.reduceLT, Nat.reduceEqDiff, Nat.reduceAdd, Nat.reduceMul, ↓reduceIte, reduceCtorEq, und9, hi, h0]; (first | (refine hK1 _ ?_; clear hK1 K1) | (refine ⟨?_, hK1 _ ?_⟩ <;> clear hK1 K1; first | (· (simp; done)) | (· (simp +contextual; done)) | (· (simp +contextual; omega)) | (· grind) | skip))
      refine wps_cond (by simp only [go_sem, Nat.reduceLeDiff, Nat.reducePow, Nat.reduceSub, Nat.reduceLT, Nat.reduceEqDiff, Nat.reduceAdd, Nat.reduceMul, ↓reduceIte, reduceCtorEq]; rfl) (by simp) (fun hb => ?_) (fun hb => ?_)
      · refine hK4 _ ?_; clear hK4 K4
        simp only [decide_eq_true_eq] at hb
        have hk' : k < s.length := by omega
        refine wps_seq_k fun K5 hK5 => ?_
        refine wps_block ?_
        refine wps_seq_k fun K1 hK1 => wps_reg ?_; simp only [go_sem, Nat.reduceLeDiff, Nat.reducePow, Nat.reduceSub, Nat.reduceLT, Nat.reduceEqDiff, Nat.reduceAdd, Nat.reduceMul, ↓reduceIte, reduceCtorEq, und9, hi, h0]; (first | (refine hK1 _ ?_; clear hK1 K1) | (refine ⟨?_, hK1 _ ?_⟩ <;> clear hK1 K1; first | (· (simp; done)) | (· (simp +contextual; done)) | (· (simp +contextual; omega)) | (· grind) | skip))
        refine wps_cond (by simp only [go_sem, Nat.reduceLeDiff, Nat.reducePow, Nat.reduceSub, Nat.reduceLT, Nat.reduceEqDiff, Nat.reduceAdd, Nat.reduceMul, ↓reduceIte, reduceCtorEq]; rfl) (by simp) (fun hb => ?_) (fun hb => ?_)
        · refine wps_seq_k fun K1 hK1 => wps_reg ?_; simp only [go_sem, Nat.reduceLeDiff, Nat.reducePow, Nat.reduceSub, Nat.reduceLT, Nat.reduceEqDiff, Nat.reduceAdd, Nat.reduceMul, ↓reduceIte, reduceCtorEq]; (first | (refine hK1 _ ?_; clear hK1 K1) | (refine ⟨?_, hK1 _ ?_⟩ <;> clear hK1 K1; first | (· (simp; done)) | (· (simp +contextual; done)) | (· (simp +contextual; omega)) | (· grind) | skip))
          simp only [wps, endQ, resV, resVs, resV1, go_sem, Nat.reduceLeDiff, Nat.reducePow, Nat.reduceSub, Nat.reduceLT, Nat.reduceEqDiff, Nat.reduceAdd, Nat.reduceMul, ↓reduceIte, reduceCtorEq]
          simp only [true_and, and_true, V.bool.injEq]
          refine (objectQ_all (not_all hk' ?_)).symm
          simp [vis] at hb ⊢
          omega
        · refine hK5 _ ?_; clear hK5 K5
          refine wps_reg ?_; simp only [go_sem, Nat.reduceLeDiff, Nat.reducePow, Nat.reduceSub, Nat.reduceLT, Nat.reduceEqDiff, Nat.reduceAdd, Nat.reduceMul, ↓reduceIte, reduceCtorEq, hi]
          refine ⟨hk', ?_, ?_, h0⟩
          · rw [IntWalk.i64_in _ (by omega)]
          · refine all_take_succ hall hk' ?_
            simp [vis] at hb ⊢
            omega
      · refine hK3 _ ?_
        refine wps_seq_k fun K1 hK1 => wps_reg ?_; simp only [go_sem, Nat.reduceLeDiff, Nat.reducePow, Nat.reduceSub, Nat.reduceLT, Nat.reduceEqDiff, Nat.reduceAdd, Nat.reduceMul, ↓reduceIte, reduceCtorEq]; (first | (refine hK1 _ ?_; clear hK1 K1) | (refine ⟨?_, hK1 _ ?_⟩ <;> clear hK1 K1; first | (· (simp; done)) | (· (simp +contextual; done)) | (· (simp +contextual; omega)) | (· grind) | skip))
        simp only [wps, endQ, resV, resVs, resV1, go_sem, Nat.reduceLeDiff, Nat.reducePow, Nat.reduceSub, Nat.reduceLT, Nat.reduceEqDiff, Nat.reduceAdd, Nat.reduceMul, ↓reduceIte, reduceCtorEq]
        have hall := all_done hall hk hb
        simp only [true_and, and_true, V.bool.injEq, objectQ, hall]
        simp at hb1
        simp
        omega
end Go.Eng.Tryz

/- Contracts: tags, keys, tenants; runes. -/
namespace Go.Eng.Tryz
open Go.Proofs
attribute [local go_sem] oss_nil_eq Int.toNat_natCast maxLen Nat.zero_le run step opv slotV opvs dstLt evalQ constV isA setD upd_app guardB List.getD_cons_zero List.getD_cons_succ List.getD_nil V.tag V.cells decide_true decide_false Bool.false_eq_true if_false if_true ne_eq Nat.one_ne_zero not_false_eq_true keyKind cellOk List.forall_mem_cons List.not_mem_nil false_implies true_and and_true implies_true forall_const bump addrAdd loadA loadV part opV binV eqlV eqOk pickV unV convV boundV fillV storeTo splice List.getElem?_cons_zero List.getElem?_cons_succ List.take_succ_cons List.take_zero List.drop_succ_cons List.drop_zero List.length_cons List.length_nil List.cons_append List.nil_append List.append_nil List.getElem_toArray List.getElem?_toArray List.size_toArray and_self eqV_tupl eqV_tupr fbt tbf beq_self_eq_true Bool.not_false Bool.not_true cond_true cond_false newVarW updH_self updH_updH isFuncFn runT stepT stepC isCallV callOf callV escL memN runW stepW stepCW runD stepD safeB slots ownS stepOwn reads runM stepM emptyH softEq V.soft softs readSl chunks partsV delKV slice0V stepE runE
set_option linter.unusedSimpArgs false
set_option linter.unusedVariables false

theorem tagR_all {s : B} (h : s.all tagC = false) : tagR s = false := by unfold tagR; simp [h]
theorem keyQ_all {s : B} (h : s.all vis = false) : keyQ s = false := by unfold keyQ; simp [h]

theorem s126 (s : B) (wk : Bool) (M : Heap) : Pure Tryz.prog 126 [.agg [.str s, .bool wk]] M (.bool (tagR s)) := by
  refine Spec.strip' (fun _ => false) ok126 (by simp) (fun hlen => ?_)
  have hlen : s.length ≤ 9223372036854775807 := by simpa [lensOk, lenOk, maxLen] using hlen
  unfold c126
  refine wps_seq_k fun K1 hK1 => wps_reg ?_; simp only [go_sem, Nat.reduceLeDiff, Nat.reducePow, Nat.reduceSub, Nat.reduceLT, Nat.reduceEqDiff, Nat.reduceAdd, Nat.reduceMul, ↓reduceIte, reduceCtorEq]; (first | (refine hK1 _ ?_; clear hK1 K1) | (refine ⟨?_, hK1 _ ?_⟩ <;> clear hK1 K1; first | (· (simp; done)) | (· (simp +contextual; done)) | (· (simp +contextual; omega)) | (· grind) | skip))
  refine wps_seq_k fun K2 hK2 => ?_
  refine wps_seq_k fun K1 hK1 => wps_reg ?_; simp only [go_sem, Nat.reduceLeDiff, Nat.reducePow, Nat.reduceSub, Nat.reduceLT, Nat.reduceEqDiff, Nat.reduceAdd, Nat.reduceMul, ↓reduceIte, reduceCtorEq, fi36_0, ti9, und9]; (first | (refine hK1 _ ?_; clear hK1 K1) | (refine ⟨?_, hK1 _ ?_⟩ <;> clear hK1 K1; first | (· (simp; done)) | (· (simp +contextual; done)) | (· (simp +contextual; omega)) | (· grind) | skip))
  refine wps_block (wps_count 8 s.length (fun k st => (s.take k).all tagC = true ∧ st.M = M ∧ st.fr 1 = .box 0 [.str s, .bool wk] ∧ st.fr 7 = .int .i64 s.length) ?_ ?_)
  · exact ⟨0, by simp, by simp only [go_sem, Nat.reduceLeDiff, Nat.reducePow, Nat.reduceSub, Nat.reduceLT, Nat.reduceEqDiff, Nat.reduceAdd, Nat.reduceMul, ↓reduceIte, reduceCtorEq]; rfl, by simp, by simp only [go_sem, Nat.reduceLeDiff, Nat.reducePow, Nat.reduceSub, Nat.reduceLT, Nat.reduceEqDiff, Nat.reduceAdd, Nat.reduceMul, ↓reduceIte, reduceCtorEq], by simp only [go_sem, Nat.reduceLeDiff, Nat.reducePow, Nat.reduceSub, Nat.reduceLT, Nat.reduceEqDiff, Nat.reduceAdd, Nat.reduceMul, ↓reduceIte, reduceCtorEq], by simp only [go_sem, Nat.reduceLeDiff, Nat.reducePow, Nat.reduceSub, Nat.reduceLT, Nat.reduceEqDiff, Nat.reduceAdd, Nat.reduceMul, ↓reduceIte, reduceCtorEq]⟩
  · rintro k fr M' gen hk hi ⟨hall, hM, h1, h7⟩
    simp only at hM h1 h7; subst hM
    refine wps_seq_k fun K1 hK1 => wps_reg ?_; simp only [go_sem, Nat.reduceLeDiff, Nat.reducePow, Nat.reduceSub, Nat.reduceLT, Nat.reduceEqDiff, Nat.reduceAdd, Nat.reduceMul, ↓reduceIte, reduceCtorEq, hi, h7]; (first | (refine hK1 _ ?_; clear hK1 K1) | (refine ⟨?_, hK1 _ ?_⟩ <;> clear hK1 K1; first | (· (simp; done)) | (· (simp +contextual; done)) | (· (simp +contextual; omega)) | (· grind) | skip))
    refine wps_seq_k fun K3 hK3 => ?_
    refine wps_cond (by simp only [go_sem, Nat.reduceLeDiff, Nat.reducePow, Nat.reduceSub, Nat.reduceLT, Nat.reduceEqDiff, Nat.reduceAdd, Nat.reduceMul, ↓reduceIte, reduceCtorEq]; rfl) (by simp) (fun hb => ?_) (fun hb => ?_)
    · refine hK3 _ ?_; clear hK3 K3
      simp only [decide_eq_true_eq] at hb
      have hk' : k < s.length := by omega
      refine wps_seq_k fun K4 hK4 => ?_
      refine wps_block ?_
      refine wps_seq_k fun K1 hK1 => wps_reg ?_; simp only [go_sem, Nat.reduceLeDiff, Nat.reducePow, Nat.reduceSub, Nat.reduceLT, Nat.reduceEqDiff, Nat.reduceAdd, Nat.reduceMul, ↓reduceIte, reduceCtorEq, hi]; (first | (refine hK1 _ ?_; clear hK1 K1) | (refine ⟨?_, hK1 _ ?_⟩ <;> clear hK1 K1; first | (· (simp; done)) | (· (simp +contextual; done)) | (· (simp +contextual; omega)) | (· grind) | skip))
      refine wps_seq_k fun K1 hK1 => wps_reg ?_; simp only [go_sem, Nat.reduceLeDiff, Nat.reducePow, Nat.reduceSub, Nat.reduceLT, Nat.reduceEqDiff, Nat.reduceAdd, Nat.reduceMul, ↓reduceIte, reduceCtorEq, fi36_0, ti9, und9, hi, h1]; (first | (refine hK1 _ ?_; clear hK1 K1) | (refine ⟨?_, hK1 _ ?_⟩ <;> clear hK1 K1; first | (· (simp; done)) | (· (simp +contextual; done)) | (· (simp +contextual; omega)) | (· grind) | skip))
      refine wps_seq_k fun K1 hK1 => wps_reg ?_; simp only [go_sem, Nat.reduceLeDiff, Nat.reducePow, Nat.reduceSub, Nat.reduceLT, Nat.reduceEqDiff, Nat.reduceAdd, Nat.reduceMul, ↓reduceIte, reduceCtorEq]; (first | (refine hK1 _ ?_; clear hK1 K1) | (refine ⟨?_, hK1 _ ?_⟩ <;> clear hK1 K1; first | (· (simp; done)) | (· (simp +contextual; done)) | (· (simp +contextual; omega)) | (· grind) | skip))
      refine wps_cond (by simp only [go_sem, Nat.reduceLeDiff, Nat.reducePow, Nat.reduceSub, Nat.reduceLT, Nat.reduceEqDiff, Nat.reduceAdd, Nat.reduceMul, ↓reduceIte, reduceCtorEq]; rfl) (by simp) (fun hb => ?_) (fun hb => ?_)
      · refine wps_seq_k fun K1 hK1 => wps_reg ?_; simp only [go_sem, Nat.reduceLeDiff, Nat.reducePow, Nat.reduceSub, Nat.reduceLT, Nat.reduceEqDiff, Nat.reduceAdd, Nat.reduceMul, ↓reduceIte, reduceCtorEq]; (first | (refine hK1 _ ?_; clear hK1 K1) | (refine ⟨?_, hK1 _ ?_⟩ <;> clear hK1 K1; first | (· (simp; done)) | (· (simp +contextual; done)) | (· (simp +contextual; omega)) | (· grind) | skip))
        simp only [wps, endQ, resV, resVs, resV1, go_sem, Nat.reduceLeDiff, Nat.reducePow, Nat.reduceSub, Nat.reduceLT, Nat.reduceEqDiff, Nat.reduceAdd, Nat.reduceMul, ↓reduceIte, reduceCtorEq]
        simp only [true_and, and_true, V.bool.injEq]
        refine (tagR_all (not_all hk' ?_)).symm
        simp [vis, tagC] at hb ⊢
        omega
      · refine hK4 _ ?_; clear hK4 K4
        refine wps_reg ?_; simp only [go_sem, Nat.reduceLeDiff, Nat.reducePow, Nat.reduceSub, Nat.reduceLT, Nat.reduceEqDiff, Nat.reduceAdd, Nat.reduceMul, ↓reduceIte, reduceCtorEq, hi]
        refine ⟨hk', ?_, ?_, h1, h7⟩
        · rw [IntWalk.i64_in _ (by omega)]
        · refine all_take_succ hall hk' ?_
          simp [vis, tagC] at hb ⊢
          omega
    · refine hK2 _ ?_
      refine wps_seq_k fun K1 hK1 => wps_reg ?_; simp only [go_sem, Nat.reduceLeDiff, Nat.reducePow, Nat.reduceSub, Nat.reduceLT, Nat.reduceEqDiff, Nat.reduceAdd, Nat.reduceMul, ↓reduceIte, reduceCtorEq, fi36_0, ti9, und9, h1]; (first | (refine hK1 _ ?_; clear hK1 K1) | (refine ⟨?_, hK1 _ ?_⟩ <;> clear hK1 K1; first | (· (simp; done)) | (· (simp +contextual; done)) | (· (simp +contextual; omega)) | (· grind) | skip))
      simp only [wps, endQ, resV, resVs, resV1, go_sem, Nat.reduceLeDiff, Nat.reducePow, Nat.reduceSub, Nat.reduceLT, Nat.reduceEqDiff, Nat.reduceAdd, Nat.reduceMul, ↓reduceIte, reduceCtorEq]
      have hall := all_done hall hk hb
      simp only [true_and, and_true, V.bool.injEq, tagR, hall]
      rw [Bool.eq_iff_iff]
      simp
      omega

theorem s134 (s : B) (wk : Bool) (M : Heap) : Pure Tryz.prog 134 [.agg [.str s, .bool wk]] M (.bool (tagR s)) := by
  refine Spec.strip' (fun _ => false) ok134 (by simp) (fun hlen => ?_)
  have hlen : s.length ≤ 9223372036854775807 := by simpa [lensOk, lenOk, maxLen] using hlen
  unfold c134
  refine wps_seq_k fun K1 hK1 => wps_reg ?_; simp only [go_sem, Nat.reduceLeDiff, Nat.reducePow, Nat.reduceSub, Nat.reduceLT, Nat.reduceEqDiff, Nat.reduceAdd, Nat.reduceMul, ↓reduceIte, reduceCtorEq]; (first | (refine hK1 _ ?_; clear hK1 K1) | (refine ⟨?_, hK1 _ ?_⟩ <;> clear hK1 K1; first | (· (simp; done)) | (· (simp +contextual; done)) | (· (simp +contextual; omega)) | (· grind) | skip))
  refine wps_seq_k fun K2 hK2 => ?_
  refine wps_seq_k fun K1 hK1 => wps_reg ?_; simp only [go_sem, Nat.reduceLeDiff, Nat.reducePow, Nat.reduceSub, Nat.reduceLT, Nat.reduceEqDiff, Nat.reduceAdd, Nat.reduceMul, ↓reduceIte, reduceCtorEq, fi36_0, ti9, und9]; (first | (refine hK1 _ ?_; clear hK1 K1) | (refine ⟨?_, hK1 _ ?_⟩ <;> clear hK1 K1; first | (· (simp; done)) | (· (simp +contextual; done)) | (· (simp +contextual; omega)) | (· grind) | skip))
  refine wps_cond (by simp only [go_sem, Nat.reduceLeDiff, Nat.reducePow, Nat.reduceSub, Nat.reduceLT, Nat.reduceEqDiff, Nat.reduceAdd, Nat.reduceMul, ↓reduceIte, reduceCtorEq]; rfl) (by simp) (fun hb => ?_) (fun hb => ?_)
  · refine wps_seq_k fun K1 hK1 => wps_reg ?_; simp only [go_sem, Nat.reduceLeDiff, Nat.reducePow, Nat.reduceSub, Nat.reduceLT, Nat.reduceEqDiff, Nat.reduceAdd, Nat.reduceMul, ↓reduceIte, reduceCtorEq]; (first | (refine hK1 _ ?_; clear hK1 K1) | (refine ⟨?_, hK1 _ ?_⟩ <;> clear hK1 K1; first | (· (simp; done)) | (· (simp +contextual; done)) | (· (simp +contextual; omega)) | (· grind) | skip))
    simp only [wps, endQ, resV, resVs, resV1, go_sem, Nat.reduceLeDiff, Nat.reducePow, Nat.reduceSub, Nat.reduceLT, Nat.reduceEqDiff, Nat.reduceAdd, Nat.reduceMul, ↓reduceIte, reduceCtorEq]
    simp only [true_and, and_true, V.bool.injEq]
    symm
    unfold tagR
    simp at hb ⊢
    intro h1 h2
    omega
  · refine hK2 _ ?_; clear hK2 K2
    have hb1 := hb; clear hb
    refine wps_seq_k fun K3 hK3 => ?_
    refine wps_seq_k fun K1 hK1 => wps_reg ?_; simp only [go_sem, Nat.reduceLeDiff, Nat.reducePow, Nat.reduceSub, Nat.reduceLT, Nat.reduceEqDiff, Nat.reduceAdd, Nat.reduceMul, ↓reduceIte, reduceCtorEq]; (first | (refine hK1 _ ?_; clear hK1 K1) | (refine ⟨?_, hK1 _ ?_⟩ <;> clear hK1 K1; first | (· (simp; done)) | (· (simp +contextual; done)) | (· (simp +contextual; omega)) | (· grind) | skip))
    refine wps_block (wps_count 3 s.length (fun k st => (s.take k).all tagC = true ∧ st.M = M ∧ st.fr 1 = .box 0 [.str s, .bool wk]) ?_ ?_)
    · exact ⟨0, by simp, by simp only [go_sem, Nat.reduceLeDiff, Nat.reducePow, Nat.reduceSub, Nat.reduceLT, Nat.reduceEqDiff, Nat.reduceAdd, Nat.reduceMul, ↓reduceIte, reduceCtorEq]; rfl, by simp, by simp only [go_sem, Nat.reduceLeDiff, Nat.reducePow, Nat.reduceSub, Nat.reduceLT, Nat.reduceEqDiff, Nat.reduceAdd, Nat.reduceMul, ↓reduceIte, reduceCtorEq], by simp only [go_sem, Nat.reduceLeDiff, Nat.reducePow, Nat.reduceSub, Nat.reduceLT, Nat.reduceEqDiff, Nat.reduceAdd, Nat.reduceMul, ↓reduceIte, reduceCtorEq]⟩
    · rintro k fr M' gen hk hi ⟨hall, hM, h1⟩
      simp only at hM h1; subst hM
      refine wps_seq_k fun K4 hK4 => ?_
      refine wps_seq_k fun K1 hK1 => wps_reg ?_; simp only [go_sem, Nat.reduceLeDiff, Nat.reducePow, Nat.reduceSub, Nat.reduceLT, Nat.reduceEqDiff, Nat.reduceAdd, Nat.reduceMul, ↓reduceIte, reduceCtorEq, fi36_0, ti9, und9, hi, h1]; (first | (refine hK1 _ ?_; clear hK1 K1) | (refine ⟨?_, hK1 _ ?_⟩ <;> clear hK1 K1; first | (· (simp; done)) | (· (simp +contextual; done)) | (· (simp +contextual; omega)) | (· grind) | skip))
      refine wps_cond (by simp only [go_sem, Nat.reduceLeDiff, Nat.reducePow, Nat.reduceSub, Nat.reduceLT, Nat.reduceEqDiff, Nat.reduceAdd, Nat.reduceMul, ↓reduceIte, reduceCtorEq]; rfl) (by simp) (fun hb => ?_) (fun hb => ?_)
      · refine hK4 _ ?_; clear hK4 K4
        simp only [decide_eq_true_eq] at hb
        have hk' : k < s.length := by omega
        refine wps_seq_k fun K5 hK5 => ?_
        refine wps_block ?_
        refine wps_seq_k fun K1 hK1 => wps_reg ?_; simp only [go_sem, Nat.reduceLeDiff, Nat.reducePow, Nat.reduceSub, Nat.reduceLT, Nat.reduceEqDiff, Nat.reduceAdd, Nat.reduceMul, ↓reduceIte, reduceCtorEq, fi36_0, ti9, und9, hi, h1]; (first | (refine hK1 _ ?_; clear hK1 K1) | (refine ⟨?_, hK1 _ ?_⟩ <;> clear hK1 K1; first | (· (simp; done)) | (· (simp +contextual; done)) | (· (simp +contextual; omega)) | (· grind) | skip))
        refine wps_seq_k fun K1 hK1 => wps_reg ?_; simp only [go_sem, Nat.reduceLeDiff, Nat.reducePow, Nat.reduceSub, Nat.reduceLT, Nat.reduceEqDiff, Nat.reduceAdd, Nat.reduceMul, ↓reduceIte, reduceCtorEq]; (first | (refine hK1 _ ?_; clear hK1 K1) | (refine ⟨?_, hK1 _ ?_⟩ <;> clear hK1 K1; first | (· (simp; done)) | (· (simp +contextual; done)) | (· (simp +contextual; omega)) | (· grind) | skip))
        refine wps_cond (by simp only [go_sem, Nat.reduceLeDiff, Nat.reducePow, Nat.reduceSub, Nat.reduceLT, Nat.reduceEqDiff, Nat.reduceAdd, Nat.reduceMul, ↓reduceIte, reduceCtorEq]; rfl) (by simp) (fun hb => ?_) (fun hb => ?_)
        · refine wps_seq_k fun K1 hK1 => wps_reg ?_; simp only [go_sem, Nat.reduceLeDiff, Nat.reducePow, Nat.reduceSub, Nat.reduceLT, Nat.reduceEqDiff, Nat.reduceAdd, Nat.reduceMul, ↓reduceIte, reduceCtorEq]; (first | (refine hK1 _ ?_; clear hK1 K1) | (refine ⟨?_, hK1 _ ?_⟩ <;> clear hK1 K1; first | (· (simp; done)) | (· (simp +contextual; done)) | (· (simp +contextual; omega)) | (· grind) | skip))
          simp only [wps, endQ, resV, resVs, resV1, go_sem, Nat.reduceLeDiff, Nat.reducePow, Nat.reduceSub, Nat.reduceLT, Nat.reduceEqDiff, Nat.reduceAdd, Nat.reduceMul, ↓reduceIte, reduceCtorEq]
          simp only [true_and, and_true, V.bool.injEq]
          refine (tagR_all (not_all hk' ?_)).symm
          simp [vis, tagC] at hb ⊢
          omega
        · refine hK5 _ ?_; clear hK5 K5
          refine wps_reg ?_; simp only [go_sem, Nat.reduceLeDiff, Nat.reducePow, Nat.reduceSub, Nat.reduceLT, Nat.reduceEqDiff, Nat.reduceAdd, Nat.reduceMul, ↓reduceIte, reduceCtorEq, hi]
          refine ⟨hk', ?_, ?_, h1⟩
          · rw [IntWalk.i64_in _ (by omega)]
          · refine all_take_succ hall hk' ?_
            simp [vis, tagC] at hb ⊢
            omega
      · refine hK3 _ ?_
        refine wps_seq_k fun K1 hK1 => wps_reg ?_; simp only [go_sem, Nat.reduceLeDiff, Nat.reducePow, Nat.reduceSub, Nat.reduceLT, Nat.reduceEqDiff, Nat.reduceAdd, Nat.reduceMul, ↓reduceIte, reduceCtorEq]; (first | (refine hK1 _ ?_; clear hK1 K1) | (refine ⟨?_, hK1 _ ?_⟩ <;> clear hK1 K1; first | (· (simp; done)) | (· (simp +contextual; done)) | (· (simp +contextual; omega)) | (· grind) | skip))
        simp only [wps, endQ, resV, resVs, resV1, go_sem, Nat.reduceLeDiff, Nat.reducePow, Nat.reduceSub, Nat.reduceLT, Nat.reduceEqDiff, Nat.reduceAdd, Nat.reduceMul, ↓reduceIte, reduceCtorEq]
        have hall := all_done hall hk hb
        simp only [true_and, and_true, V.bool.injEq, tagR, hall]
        simp at hb1 ⊢
        omega

theorem s156 (s : B) (M : Heap) : Pure Tryz.prog 156 [.str s] M (.bool (keyQ s)) := by
  refine Spec.strip' (fun _ => false) ok156 (by simp) (fun hlen => ?_)
  have hlen : s.length ≤ 9223372036854775807 := by simpa [lensOk, lenOk, maxLen] using hlen
  unfold c156
  refine wps_seq_k fun K1 hK1 => wps_reg ?_; simp only [go_sem, Nat.reduceLeDiff, Nat.reducePow, Nat.reduceSub, Nat.reduceLT, Nat.reduceEqDiff, Nat.reduceAdd, Nat.reduceMul, ↓reduceIte, reduceCtorEq]; (first | (refine hK1 _ ?_; clear hK1 K1) | (refine ⟨?_, hK1 _ ?_⟩ <;> clear hK1 K1; first | (· (simp; done)) | (· (simp +contextual; done)) | (· (simp +contextual; omega)) | (· grind) | skip))
  refine wps_seq_k fun K2 hK2 => ?_
  refine wps_seq_k fun K1 hK1 => wps_reg ?_; simp only [go_sem, Nat.reduceLeDiff, Nat.reducePow, Nat.reduceSub, Nat.reduceLT, Nat.reduceEqDiff, Nat.reduceAdd, Nat.reduceMul, ↓reduceIte, reduceCtorEq]; (first | (refine hK1 _ ?_; clear hK1 K1) | (refine ⟨?_, hK1 _ ?_⟩ <;> clear hK1 K1; first | (· (simp; done)) | (· (simp +contextual; done)) | (· (simp +contextual; omega)) | (· grind) | skip))
  refine wps_block (wps_count 3 s.length (fun k st => (s.take k).all vis = true ∧ st.M = M ∧ st.fr 0 = .str s) ?_ ?_)
  · exact ⟨0, by simp, by simp only [go_sem, Nat.reduceLeDiff, Nat.reducePow, Nat.reduceSub, Nat.reduceLT, Nat.reduceEqDiff, Nat.reduceAdd, Nat.reduceMul, ↓reduceIte, reduceCtorEq]; rfl, by simp, by simp only [go_sem, Nat.reduceLeDiff, Nat.reducePow, Nat.reduceSub, Nat.reduceLT, Nat.reduceEqDiff, Nat.reduceAdd, Nat.reduceMul, ↓reduceIte, reduceCtorEq], by simp only [go_sem, Nat.reduceLeDiff, Nat.reducePow, Nat.reduceSub, Nat.reduceLT, Nat.reduceEqDiff, Nat.reduceAdd, Nat.reduceMul, ↓reduceIte, reduceCtorEq]⟩
  · rintro k fr M' gen hk hi ⟨hall, hM, h0⟩
    simp only at hM h0; subst hM
    refine wps_seq_k fun K3 hK3 => ?_
    refine wps_seq_k fun K1 hK1 => wps_reg ?_; simp only [go_sem, Nat.reduceLeDiff, Nat.reducePow, Nat.reduceSub, Nat.reduceLT, Nat.reduceEqDiff, Nat.reduceAdd, Nat.reduceMul, ↓reduceIte, reduceCtorEq, und9, hi, h0]; (first | (refine hK1 _ ?_; clear hK1 K1) | (refine ⟨?_, hK1 _ ?_⟩ <;> clear hK1 K1; first | (· (simp; done)) | (· (simp +contextual; done)) | (· (simp +contextual; omega)) | (· grind) | skip))
    refine wps_cond (by simp only [go_sem, Nat.reduceLeDiff, Nat.reducePow, Nat.reduceSub, Nat.reduceLT, Nat.reduceEqDiff, Nat.reduceAdd, Nat.reduceMul, ↓reduceIte, reduceCtorEq]; rfl) (by simp) (fun hb => ?_) (fun hb => ?_)
    · refine hK3 _ ?_; clear hK3 K3
      simp only [decide_eq_true_eq] at hb
      have hk' : k < s.length := by omega
      refine wps_seq_k fun K4 hK4 => ?_
      refine wps_block ?_
      refine wps_seq_k fun K1 hK1 => wps_reg ?_; simp only [go_sem, Nat.reduceLeDiff, Nat.reducePow, Nat.reduceSub, Nat.reduceLT, Nat.reduceEqDiff, Nat.reduceAdd, Nat.reduceMul, ↓reduceIte, reduceCtorEq, und9, hi, h0]; (first | (refine hK1 _ ?_; clear hK1 K1) | (refine ⟨?_, hK1 _ ?_⟩ <;> clear hK1 K1; first | (· (simp; done)) | (· (simp +contextual; done)) | (· (simp +contextual; omega)) | (· grind) | skip))
      refine wps_cond (by simp only [go_sem, Nat.reduceLeDiff, Nat.reducePow, Nat.reduceSub, Nat.reduceLT, Nat.reduceEqDiff, Nat.reduceAdd, Nat.reduceMul, ↓reduceIte, reduceCtorEq]; rfl) (by simp) (fun hb => ?_) (fun hb => ?_)
      · refine wps_seq_k fun K1 hK1 => wps_reg ?_; simp only [go_sem, Nat.reduceLeDiff, Nat.reducePow, Nat.reduceSub, Nat.reduceLT, Nat.reduceEqDiff, Nat.reduceAdd, Nat.reduceMul, ↓reduceIte, reduceCtorEq]; (first | (refine hK1 _ ?_; clear hK1 K1) | (refine ⟨?_, hK1 _ ?_⟩ <;> clear hK1 K1; first | (· (simp; done)) | (· (simp +contextual; done)) | (· (simp +contextual; omega)) | (· grind) | skip))
        simp only [wps, endQ, resV, resVs, resV1, go_sem, Nat.reduceLeDiff, Nat.reducePow, Nat.reduceSub, Nat.reduceLT, Nat.reduceEqDiff, Nat.reduceAdd, Nat.reduceMul, ↓reduceIte, reduceCtorEq]
        simp only [true_and, and_true, V.bool.injEq]
        refine (keyQ_all (not_all hk' ?_)).symm
        simp [vis, tagC] at hb ⊢
        omega
      · refine hK4 _ ?_; clear hK4 K4
        refine wps_reg ?_; simp only [go_sem, Nat.reduceLeDiff, Nat.reducePow, Nat.reduceSub, Nat.reduceLT, Nat.reduceEqDiff, Nat.reduceAdd, Nat.reduceMul, ↓reduceIte, reduceCtorEq, hi]
        refine ⟨hk', ?_, ?_, h0⟩
        · rw [IntWalk.i64_in _ (by omega)]
        · refine all_take_succ hall hk' ?_
          simp [vis, tagC] at hb ⊢
          omega
    · refine hK2 _ ?_
      refine wps_seq_k fun K1 hK1 => wps_reg ?_; simp only [go_sem, Nat.reduceLeDiff, Nat.reducePow, Nat.reduceSub, Nat.reduceLT, Nat.reduceEqDiff, Nat.reduceAdd, Nat.reduceMul, ↓reduceIte, reduceCtorEq, und9, h0]; (first | (refine hK1 _ ?_; clear hK1 K1) | (refine ⟨?_, hK1 _ ?_⟩ <;> clear hK1 K1; first | (· (simp; done)) | (· (simp +contextual; done)) | (· (simp +contextual; omega)) | (· grind) | skip))
      simp only [wps, endQ, resV, resVs, resV1, go_sem, Nat.reduceLeDiff, Nat.reducePow, Nat.reduceSub, Nat.reduceLT, Nat.reduceEqDiff, Nat.reduceAdd, Nat.reduceMul, ↓reduceIte, reduceCtorEq]
      have hall := all_done hall hk hb
      simp only [true_and, and_true, V.bool.injEq, keyQ, hall]
      rw [Bool.eq_iff_iff]
      simp
      omega
end Go.Eng.Tryz

/- Contracts: tenants, prefixes, runes. -/
namespace Go.Eng.Tryz
open Go.Proofs
attribute [local go_sem] oss_nil_eq Int.toNat_natCast maxLen Nat.zero_le run step opv slotV opvs dstLt evalQ constV isA setD upd_app guardB List.getD_cons_zero List.getD_cons_succ List.getD_nil V.tag V.cells decide_true decide_false Bool.false_eq_true if_false if_true ne_eq Nat.one_ne_zero not_false_eq_true keyKind cellOk List.forall_mem_cons List.not_mem_nil false_implies true_and and_true implies_true forall_const bump addrAdd loadA loadV part opV binV eqlV eqOk pickV unV convV boundV fillV storeTo splice List.getElem?_cons_zero List.getElem?_cons_succ List.take_succ_cons List.take_zero List.drop_succ_cons List.drop_zero List.length_cons List.length_nil List.cons_append List.nil_append List.append_nil List.getElem_toArray List.getElem?_toArray List.size_toArray and_self eqV_tupl eqV_tupr fbt tbf beq_self_eq_true Bool.not_false Bool.not_true cond_true cond_false newVarW updH_self updH_updH isFuncFn runT stepT stepC isCallV callOf callV escL memN runW stepW stepCW runD stepD safeB slots ownS stepOwn reads runM stepM emptyH softEq V.soft softs readSl chunks partsV delKV slice0V stepE runE
set_option linter.unusedSimpArgs false
set_option linter.unusedVariables false

theorem s136 (s : B) (M : Heap) : Pure Tryz.prog 136 [.str s] M (.bool (tenantQ s)) := by
  refine Spec.strip' (fun _ => false) ok136 (by simp) (fun hlen => ?_)
  have hlen : s.length ≤ 9223372036854775807 := by simpa [lensOk, lenOk, maxLen] using hlen
  unfold c136
  refine wps_seq_k fun K1 hK1 => wps_reg ?_; simp only [go_sem, Nat.reduceLeDiff, Nat.reducePow, Nat.reduceSub, Nat.reduceLT, Nat.reduceEqDiff, Nat.reduceAdd, Nat.reduceMul, ↓reduceIte, reduceCtorEq]; (first | (refine hK1 _ ?_; clear hK1 K1) | (refine ⟨?_, hK1 _ ?_⟩ <;> clear hK1 K1; first | (· (simp; done)) | (· (simp +contextual; done)) | (· (simp +contextual; omega)) | (· grind) | skip))
  refine wps_seq_k fun K2 hK2 => ?_
  refine wps_seq_k fun K1 hK1 => wps_reg ?_; simp only [go_sem, Nat.reduceLeDiff, Nat.reducePow, Nat.reduceSub, Nat.reduceLT, Nat.reduceEqDiff, Nat.reduceAdd, Nat.reduceMul, ↓reduceIte, reduceCtorEq]; (first | (refine hK1 _ ?_; clear hK1 K1) | (refine ⟨?_, hK1 _ ?_⟩ <;> clear hK1 K1; first | (· (simp; done)) | (· (simp +contextual; done)) | (· (simp +contextual; omega)) | (· grind) | skip))
  refine wps_block (wps_count 3 s.length (fun k st => (s.take k).all tenC = true ∧ (0 < k → (s.getD 0 0).toNat ≠ 45) ∧ st.M = M ∧ st.fr 0 = .str s) ?_ ?_)
  · exact ⟨0, by simp, by simp only [go_sem, Nat.reduceLeDiff, Nat.reducePow, Nat.reduceSub, Nat.reduceLT, Nat.reduceEqDiff, Nat.reduceAdd, Nat.reduceMul, ↓reduceIte, reduceCtorEq]; rfl, by simp, by simp, by simp only [go_sem, Nat.reduceLeDiff, Nat.reducePow, Nat.reduceSub, Nat.reduceLT, Nat.reduceEqDiff, Nat.reduceAdd, Nat.reduceMul, ↓reduceIte, reduceCtorEq], by simp only [go_sem, Nat.reduceLeDiff, Nat.reducePow, Nat.reduceSub, Nat.reduceLT, Nat.reduceEqDiff, Nat.reduceAdd, Nat.reduceMul, ↓reduceIte, reduceCtorEq]⟩
  · rintro k fr M' gen hk hi ⟨hall, h45, hM, h0⟩
    simp only at hM h0; subst hM
    refine wps_seq_k fun K3 hK3 => ?_
    refine wps_seq_k fun K1 hK1 => wps_reg ?_; simp only [go_sem, Nat.reduceLeDiff, Nat.reducePow, Nat.reduceSub, Nat.reduceLT, Nat.reduceEqDiff, Nat.reduceAdd, Nat.reduceMul, ↓reduceIte, reduceCtorEq, und9, hi, h0]; (first | (refine hK1 _ ?_; clear hK1 K1) | (refine ⟨?_, hK1 _ ?_⟩ <;> clear hK1 K1; first | (· (simp; done)) | (· (simp +contextual; done)) | (· (simp +contextual; omega)) | (· grind) | skip))
    refine wps_cond (by simp only [go_sem, Nat.reduceLeDiff, Nat.reducePow, Nat.reduceSub, Nat.reduceLT, Nat.reduceEqDiff, Nat.reduceAdd, Nat.reduceMul, ↓reduceIte, reduceCtorEq]; rfl) (by simp) (fun hb => ?_) (fun hb => ?_)
    · refine hK3 _ ?_; clear hK3 K3
      simp only [decide_eq_true_eq] at hb
      have hk' : k < s.length := by omega
      refine wps_seq_k fun K4 hK4 => ?_
      refine wps_block ?_
      refine wps_seq_k fun K1 hK1 => wps_reg ?_; simp only [go_sem, Nat.reduceLeDiff, Nat.reducePow, Nat.reduceSub, Nat.reduceLT, Nat.reduceEqDiff, Nat.reduceAdd, Nat.reduceMul, ↓reduceIte, reduceCtorEq, und9, hi, h0]; (first | (refine hK1 _ ?_; clear hK1 K1) | (refine ⟨?_, hK1 _ ?_⟩ <;> clear hK1 K1; first | (· (simp; done)) | (· (simp +contextual; done)) | (· (simp +contextual; omega)) | (· grind) | skip))
      refine wps_seq_k fun K1 hK1 => wps_reg ?_; simp only [go_sem, Nat.reduceLeDiff, Nat.reducePow, Nat.reduceSub, Nat.reduceLT, Nat.reduceEqDiff, Nat.reduceAdd, Nat.reduceMul, ↓reduceIte, reduceCtorEq, hi]; (first | (refine hK1 _ ?_; clear hK1 K1) | (refine ⟨?_, hK1 _ ?_⟩ <;> clear hK1 K1; first | (· (simp; done)) | (· (simp +contextual; done)) | (· (simp +contextual; omega)) | (· grind) | skip))
      refine wps_cond (by simp only [go_sem, Nat.reduceLeDiff, Nat.reducePow, Nat.reduceSub, Nat.reduceLT, Nat.reduceEqDiff, Nat.reduceAdd, Nat.reduceMul, ↓reduceIte, reduceCtorEq]; rfl) (by simp) (fun hb => ?_) (fun hb => ?_)
      · refine wps_seq_k fun K1 hK1 => wps_reg ?_; simp only [go_sem, Nat.reduceLeDiff, Nat.reducePow, Nat.reduceSub, Nat.reduceLT, Nat.reduceEqDiff, Nat.reduceAdd, Nat.reduceMul, ↓reduceIte, reduceCtorEq]; (first | (refine hK1 _ ?_; clear hK1 K1) | (refine ⟨?_, hK1 _ ?_⟩ <;> clear hK1 K1; first | (· (simp; done)) | (· (simp +contextual; done)) | (· (simp +contextual; omega)) | (· grind) | skip))
        simp only [wps, endQ, resV, resVs, resV1, go_sem, Nat.reduceLeDiff, Nat.reducePow, Nat.reduceSub, Nat.reduceLT, Nat.reduceEqDiff, Nat.reduceAdd, Nat.reduceMul, ↓reduceIte, reduceCtorEq]
        simp only [true_and, and_true, V.bool.injEq]
        symm
        have hq : tenC (s.getD k 0) = false ∨ (k = 0 ∧ (s.getD k 0).toNat = 45) := by
          simp [tenC] at hb ⊢
          omega
        rcases hq with hq | ⟨rfl, hq⟩
        · simp [tenantQ, not_all hk' hq]
        · have : ([45] : B).isPrefixOf s = true := by
            cases s with
            | nil => simp at hk'
            | cons a l =>
              have ha : a = 45 := UInt8.toNat_inj.1 hq
              subst ha; simp [List.isPrefixOf]
          simp [tenantQ, this]
      · refine hK4 _ ?_; clear hK4 K4
        refine wps_reg ?_; simp only [go_sem, Nat.reduceLeDiff, Nat.reducePow, Nat.reduceSub, Nat.reduceLT, Nat.reduceEqDiff, Nat.reduceAdd, Nat.reduceMul, ↓reduceIte, reduceCtorEq, hi]
        refine ⟨hk', ?_, ?_, ?_, h0⟩
        · rw [IntWalk.i64_in _ (by omega)]
        · refine all_take_succ hall hk' ?_
          simp [tenC] at hb ⊢
          omega
        · intro _
          by_cases hk0 : k = 0
          · subst hk0; simp at hb ⊢; omega
          · exact h45 (by omega)
    · refine hK2 _ ?_
      refine wps_seq_k fun K1 hK1 => wps_reg ?_; simp only [go_sem, Nat.reduceLeDiff, Nat.reducePow, Nat.reduceSub, Nat.reduceLT, Nat.reduceEqDiff, Nat.reduceAdd, Nat.reduceMul, ↓reduceIte, reduceCtorEq, und9, h0]; (first | (refine hK1 _ ?_; clear hK1 K1) | (refine ⟨?_, hK1 _ ?_⟩ <;> clear hK1 K1; first | (· (simp; done)) | (· (simp +contextual; done)) | (· (simp +contextual; omega)) | (· grind) | skip))
      simp only [wps, endQ, resV, resVs, resV1, go_sem, Nat.reduceLeDiff, Nat.reducePow, Nat.reduceSub, Nat.reduceLT, Nat.reduceEqDiff, Nat.reduceAdd, Nat.reduceMul, ↓reduceIte, reduceCtorEq]
      have hall := all_done hall hk hb
      simp only [true_and, and_true, V.bool.injEq, tenantQ, hall]
      have : ([45] : B).isPrefixOf s = false := by
        cases s with
        | nil => rfl
        | cons a l =>
          simp at hb hk
          have h := h45 (by omega)
          have : a ≠ 45 := fun e => by subst e; simp at h
          simp [List.isPrefixOf]
          exact fun e => this e.symm
      rw [this, Bool.eq_iff_iff]
      simp
      omega

theorem take_eq_prefix (p s : B) : (decide (p.length ≤ s.length) && (s.take p.length == p)) = p.isPrefixOf s := by
  rw [Bool.eq_iff_iff]
  simp only [Bool.and_eq_true, decide_eq_true_eq, beq_iff_eq, List.isPrefixOf_iff_prefix]
  constructor
  · rintro ⟨h, e⟩; rw [← e]; exact List.take_prefix _ _
  · intro h
    exact ⟨h.length_le, (List.prefix_iff_eq_take.1 h).symm⟩

theorem s172 (s p : B) (M : Heap) : Pure Tryz.prog 172 [.str s, .str p] M (.bool (p.isPrefixOf s)) := by
  refine Spec.strip (fun _ => false) ok172 (by simp) ?_
  unfold c172
  refine wps_seq_k fun K1 hK1 => wps_reg ?_; simp only [go_sem, Nat.reduceLeDiff, Nat.reducePow, Nat.reduceSub, Nat.reduceLT, Nat.reduceEqDiff, Nat.reduceAdd, Nat.reduceMul, ↓reduceIte, reduceCtorEq]; (first | (refine hK1 _ ?_; clear hK1 K1) | (refine ⟨?_, hK1 _ ?_⟩ <;> clear hK1 K1; first | (· (simp; done)) | (· (simp +contextual; done)) | (· (simp +contextual; omega)) | (· grind) | skip))
  refine wps_seq_k fun K1 hK1 => wps_reg ?_; simp only [go_sem, Nat.reduceLeDiff, Nat.reducePow, Nat.reduceSub, Nat.reduceLT, Nat.reduceEqDiff, Nat.reduceAdd, Nat.reduceMul, ↓reduceIte, reduceCtorEq, und9, sliceV, cutL, boundsOk]; (first | (refine hK1 _ ?_; clear hK1 K1) | (refine ⟨?_, hK1 _ ?_⟩ <;> clear hK1 K1; first | (· (simp; done)) | (· (simp +contextual; done)) | (· (simp +contextual; omega)) | (· grind) | skip))
  simp only [wps, endQ, resV, resVs, resV1, go_sem, Nat.reduceLeDiff, Nat.reducePow, Nat.reduceSub, Nat.reduceLT, Nat.reduceEqDiff, Nat.reduceAdd, Nat.reduceMul, ↓reduceIte, reduceCtorEq]
  simp only [true_and, and_true, V.bool.injEq, Option.map, Int.toNat_natCast]
  rw [← take_eq_prefix]
  simp [GE.ge]

def tab0 : Tab := fun M id vs => match id, vs with
  | 74, [.str s] => some (True, .bool (objectQ s))
  | 129, [.agg [.int .i64 x, .int .i64 y]] => some (True, .bool (decide (0 ≤ x) && (decide (x ≤ y) && decide (y ≤ 4611686018427387904))))
  | 93, [.str s] => some (True, .bool (objectQ s))
  | 126, [.agg [.str s, .bool _]] => some (True, .bool (tagR s))
  | 134, [.agg [.str s, .bool _]] => some (True, .bool (tagR s))
  | 136, [.str s] => some (True, .bool (tenantQ s))
  | 156, [.str s] => some (True, .bool (keyQ s))
  | 172, [.str s, .str p] => some (True, .bool (p.isPrefixOf s))
  | _, _ => none

theorem tab0_ok : TabOk Tryz.prog tab0 := by
  intro M id vs g r h hg
  unfold tab0 at h
  split at h <;> (try simp only [Option.some.injEq, Prod.mk.injEq, reduceCtorEq] at h) <;> (try (obtain ⟨rfl, rfl⟩ := h))
  · exact s74 _ _
  · exact s129 _ _ _
  · exact s93 _ _
  · exact s126 _ _ _
  · exact s134 _ _ _
  · exact s136 _ _
  · exact s156 _ _
  · exact s172 _ _ _

theorem s151 (s p : B) (M : Heap) : Pure Tryz.prog 151 [.str s, .str p] M (.bool (p.isPrefixOf s)) := by
  refine Spec.strip (fun _ => false) ok151 (by simp) ?_
  unfold c151
  refine wps_seq_k fun K1 hK1 => wps_regT tab0 tab0_ok ?_; simp only [go_sem, Nat.reduceLeDiff, Nat.reducePow, Nat.reduceSub, Nat.reduceLT, Nat.reduceEqDiff, Nat.reduceAdd, Nat.reduceMul, ↓reduceIte, reduceCtorEq, tab0]; (first | (refine hK1 _ ?_; clear hK1 K1) | (refine ⟨?_, hK1 _ ?_⟩ <;> clear hK1 K1; first | (· (simp; done)) | (· (simp +contextual; done)) | (· (simp +contextual; omega)) | (· grind) | skip))
  refine wps_seq_k fun K1 hK1 => wps_regT tab0 tab0_ok ?_; simp only [go_sem, Nat.reduceLeDiff, Nat.reducePow, Nat.reduceSub, Nat.reduceLT, Nat.reduceEqDiff, Nat.reduceAdd, Nat.reduceMul, ↓reduceIte, reduceCtorEq, tab0, und9]; (first | (refine hK1 _ ?_; clear hK1 K1) | (refine ⟨?_, hK1 _ ?_⟩ <;> clear hK1 K1; first | (· (simp; done)) | (· (simp +contextual; done)) | (· (simp +contextual; omega)) | (· grind) | skip))
  simp only [wps, endQ, resV, resVs, resV1, go_sem, Nat.reduceLeDiff, Nat.reducePow, Nat.reduceSub, Nat.reduceLT, Nat.reduceEqDiff, Nat.reduceAdd, Nat.reduceMul, ↓reduceIte, reduceCtorEq, tab0]
def odd1 (c : Int) : Bool := decide (c < 33) || decide (126 < c)
def odd2 (c : Int) : Bool := decide (126 < c)
def odd3 (c : Int) : Bool := !((decide (97 ≤ bitsV .or .i32 c 32) && decide (bitsV .or .i32 c 32 ≤ 122)) || (decide (48 ≤ c) && decide (c ≤ 57)) || (c == 45) || (c == 95))
theorem s152 (c : Int) (M : Heap) : Pure Tryz.prog 152 [.int .i32 c] M (.bool (odd1 c)) := by
  refine Spec.strip (fun _ => false) ok152 (by simp) ?_
  unfold c152
  refine wps_seq_k fun K1 hK1 => wps_regT tab0 tab0_ok ?_; simp only [go_sem, Nat.reduceLeDiff, Nat.reducePow, Nat.reduceSub, Nat.reduceLT, Nat.reduceEqDiff, Nat.reduceAdd, Nat.reduceMul, ↓reduceIte, reduceCtorEq, tab0]; (first | (refine hK1 _ ?_; clear hK1 K1) | (refine ⟨?_, hK1 _ ?_⟩ <;> clear hK1 K1; first | (· (simp; done)) | (· (simp +contextual; done)) | (· (simp +contextual; omega)) | (· grind) | skip))
  refine wps_seq_k fun K1 hK1 => wps_regT tab0 tab0_ok ?_; simp only [go_sem, Nat.reduceLeDiff, Nat.reducePow, Nat.reduceSub, Nat.reduceLT, Nat.reduceEqDiff, Nat.reduceAdd, Nat.reduceMul, ↓reduceIte, reduceCtorEq, tab0]; (first | (refine hK1 _ ?_; clear hK1 K1) | (refine ⟨?_, hK1 _ ?_⟩ <;> clear hK1 K1; first | (· (simp; done)) | (· (simp +contextual; done)) | (· (simp +contextual; omega)) | (· grind) | skip))
  simp only [wps, endQ, resV, resVs, resV1, go_sem, Nat.reduceLeDiff, Nat.reducePow, Nat.reduceSub, Nat.reduceLT, Nat.reduceEqDiff, Nat.reduceAdd, Nat.reduceMul, ↓reduceIte, reduceCtorEq, tab0]
  simp [odd1]
theorem s149 (c : Int) (M : Heap) : Pure Tryz.prog 149 [.int .i32 c] M (.bool (odd2 c)) := by
  refine Spec.strip (fun _ => false) ok149 (by simp) ?_
  unfold c149
  refine wps_seq_k fun K1 hK1 => wps_regT tab0 tab0_ok ?_; simp only [go_sem, Nat.reduceLeDiff, Nat.reducePow, Nat.reduceSub, Nat.reduceLT, Nat.reduceEqDiff, Nat.reduceAdd, Nat.reduceMul, ↓reduceIte, reduceCtorEq, tab0]; (first | (refine hK1 _ ?_; clear hK1 K1) | (refine ⟨?_, hK1 _ ?_⟩ <;> clear hK1 K1; first | (· (simp; done)) | (· (simp +contextual; done)) | (· (simp +contextual; omega)) | (· grind) | skip))
  refine wps_seq_k fun K1 hK1 => wps_regT tab0 tab0_ok ?_; simp only [go_sem, Nat.reduceLeDiff, Nat.reducePow, Nat.reduceSub, Nat.reduceLT, Nat.reduceEqDiff, Nat.reduceAdd, Nat.reduceMul, ↓reduceIte, reduceCtorEq, tab0]; (first | (refine hK1 _ ?_; clear hK1 K1) | (refine ⟨?_, hK1 _ ?_⟩ <;> clear hK1 K1; first | (· (simp; done)) | (· (simp +contextual; done)) | (· (simp +contextual; omega)) | (· grind) | skip))
  simp only [wps, endQ, resV, resVs, resV1, go_sem, Nat.reduceLeDiff, Nat.reducePow, Nat.reduceSub, Nat.reduceLT, Nat.reduceEqDiff, Nat.reduceAdd, Nat.reduceMul, ↓reduceIte, reduceCtorEq, tab0]
  simp [odd2]
theorem s150 (c : Int) (M : Heap) : Pure Tryz.prog 150 [.int .i32 c] M (.bool (odd3 c)) := by
  refine Spec.strip (fun _ => false) ok150 (by simp) ?_
  unfold c150
  refine wps_seq_k fun K1 hK1 => wps_regT tab0 tab0_ok ?_; simp only [go_sem, Nat.reduceLeDiff, Nat.reducePow, Nat.reduceSub, Nat.reduceLT, Nat.reduceEqDiff, Nat.reduceAdd, Nat.reduceMul, ↓reduceIte, reduceCtorEq, tab0]; (first | (refine hK1 _ ?_; clear hK1 K1) | (refine ⟨?_, hK1 _ ?_⟩ <;> clear hK1 K1; first | (· (simp; done)) | (· (simp +contextual; done)) | (· (simp +contextual; omega)) | (· grind) | skip))
  refine wps_seq_k fun K1 hK1 => wps_regT tab0 tab0_ok ?_; simp only [go_sem, Nat.reduceLeDiff, Nat.reducePow, Nat.reduceSub, Nat.reduceLT, Nat.reduceEqDiff, Nat.reduceAdd, Nat.reduceMul, ↓reduceIte, reduceCtorEq, tab0]; (first | (refine hK1 _ ?_; clear hK1 K1) | (refine ⟨?_, hK1 _ ?_⟩ <;> clear hK1 K1; first | (· (simp; done)) | (· (simp +contextual; done)) | (· (simp +contextual; omega)) | (· grind) | skip))
  simp only [wps, endQ, resV, resVs, resV1, go_sem, Nat.reduceLeDiff, Nat.reducePow, Nat.reduceSub, Nat.reduceLT, Nat.reduceEqDiff, Nat.reduceAdd, Nat.reduceMul, ↓reduceIte, reduceCtorEq, tab0]
  simp [odd3, Bool.or_assoc]

theorem s171 (s : B) (id : FuncId) (p : Int → Bool) (hp : ∀ (c : Int) (M : Heap), Pure Tryz.prog id [.int .i32 c] M (.bool (p c))) (M : Heap) :
    Pure Tryz.prog 171 [.str s, .fn (.func id) [] [], .bool true] M (.int .i64 (ixf p s s.length 0)) := by
  refine Spec.strip (fun _ => false) ok171 (by simp) ?_
  unfold c171
  refine wps_seq_k fun K1 hK1 => wps_reg ?_; simp only [go_sem, Nat.reduceLeDiff, Nat.reducePow, Nat.reduceSub, Nat.reduceLT, Nat.reduceEqDiff, Nat.reduceAdd, Nat.reduceMul, ↓reduceIte, reduceCtorEq]; (first | (refine hK1 _ ?_; clear hK1 K1) | (refine ⟨?_, hK1 _ ?_⟩ <;> clear hK1 K1; first | (· (simp; done)) | (· (simp +contextual; done)) | (· (simp +contextual; omega)) | (· grind) | skip))
  refine wps_seq_k fun K2 hK2 => ?_
  refine wps_seq_k fun K1 hK1 => wps_reg ?_; simp only [go_sem, Nat.reduceLeDiff, Nat.reducePow, Nat.reduceSub, Nat.reduceLT, Nat.reduceEqDiff, Nat.reduceAdd, Nat.reduceMul, ↓reduceIte, reduceCtorEq, und9]; (first | (with_reducible refine oss_obl ?_ ?_; first | (· (simp; done)) | (· (simp +contextual; done)) | (· (simp +contextual; omega)) | (· grind) | skip) | skip)
  refine oss_op rfl rfl ?_; simp only [opw, SO.oper, go_sem, Nat.reduceLeDiff, Nat.reducePow, Nat.reduceSub, Nat.reduceLT, Nat.reduceEqDiff, Nat.reduceAdd, Nat.reduceMul, ↓reduceIte, reduceCtorEq, und9]
  (first | (refine hK1 _ ?_; clear hK1 K1) | (refine ⟨?_, hK1 _ ?_⟩ <;> clear hK1 K1; first | (· (simp; done)) | (· (simp +contextual; done)) | (· (simp +contextual; omega)) | (· grind) | skip))
  refine wps_block (wps_loop (fun st => ∃ pos f, st.fr 10 = .itr 0 s pos ∧ ixf p s f pos = ixf p s s.length 0 ∧ s.length ≤ f + pos ∧ st.M = M ∧ st.fr 1 = .fn (.func id) [] [] ∧ st.fr 2 = .bool true) (fun st => match st.fr 10 with | .itr _ _ pos => s.length - pos | _ => 0) ?_ ?_)
  · refine ⟨0, s.length, ?_, rfl, by omega, ?_, ?_, ?_⟩ <;> simp only [go_sem, Nat.reduceLeDiff, Nat.reducePow, Nat.reduceSub, Nat.reduceLT, Nat.reduceEqDiff, Nat.reduceAdd, Nat.reduceMul, ↓reduceIte, reduceCtorEq]
  · rintro fr M' gen ⟨pos, f, h10, hx, hf, hM, h1, h2⟩
    simp only at hM h10 h1 h2; subst hM
    refine wps_seq_k fun K3 hK3 => ?_
    refine wps_reg ?_; simp only [go_sem, Nat.reduceLeDiff, Nat.reducePow, Nat.reduceSub, Nat.reduceLT, Nat.reduceEqDiff, Nat.reduceAdd, Nat.reduceMul, ↓reduceIte, reduceCtorEq]; (first | (with_reducible refine oss_obl ?_ ?_; first | (· (simp; done)) | (· (simp +contextual; done)) | (· (simp +contextual; omega)) | (· grind) | skip) | skip)
    refine oss_op rfl rfl ?_; simp only [opw, SO.oper, go_sem, Nat.reduceLeDiff, Nat.reducePow, Nat.reduceSub, Nat.reduceLT, Nat.reduceEqDiff, Nat.reduceAdd, Nat.reduceMul, ↓reduceIte, reduceCtorEq, h10]
    refine ⟨fun hlt => ?_, fun hge => ?_⟩
    · refine oss_run ?_; simp only [go_sem, Nat.reduceLeDiff, Nat.reducePow, Nat.reduceSub, Nat.reduceLT, Nat.reduceEqDiff, Nat.reduceAdd, Nat.reduceMul, ↓reduceIte, reduceCtorEq]
      refine hK3 _ ?_; clear hK3 K3
      refine wps_seq_k fun K4 hK4 => ?_
      refine wps_cond (by simp only [go_sem, Nat.reduceLeDiff, Nat.reducePow, Nat.reduceSub, Nat.reduceLT, Nat.reduceEqDiff, Nat.reduceAdd, Nat.reduceMul, ↓reduceIte, reduceCtorEq]; rfl) (by simp) (fun hb => ?_) (fun hb => ?_)
      · refine hK4 _ ?_; clear hK4 K4
        refine wps_block ?_
        refine wps_seq_k fun K1 hK1 => wps_reg ?_; simp only [go_sem, Nat.reduceLeDiff, Nat.reducePow, Nat.reduceSub, Nat.reduceLT, Nat.reduceEqDiff, Nat.reduceAdd, Nat.reduceMul, ↓reduceIte, reduceCtorEq]; (first | (refine hK1 _ ?_; clear hK1 K1) | (refine ⟨?_, hK1 _ ?_⟩ <;> clear hK1 K1; first | (· (simp; done)) | (· (simp +contextual; done)) | (· (simp +contextual; omega)) | (· grind) | skip))
        refine wps_seq_k fun K1 hK1 => wps_reg ?_; simp only [go_sem, Nat.reduceLeDiff, Nat.reducePow, Nat.reduceSub, Nat.reduceLT, Nat.reduceEqDiff, Nat.reduceAdd, Nat.reduceMul, ↓reduceIte, reduceCtorEq, und21, h1]; (first | (with_reducible refine oss_obl ?_ ?_; first | (· (simp; done)) | (· (simp +contextual; done)) | (· (simp +contextual; omega)) | (· grind) | skip) | skip)
        refine oss_call rfl (by simp only [go_sem, Nat.reduceLeDiff, Nat.reducePow, Nat.reduceSub, Nat.reduceLT, Nat.reduceEqDiff, Nat.reduceAdd, Nat.reduceMul, ↓reduceIte, reduceCtorEq, h1]; rfl) (by simp) (hp _ _) ?_; rintro _ _ ⟨rfl, rfl⟩
        refine oss_run ?_; simp only [go_sem, Nat.reduceLeDiff, Nat.reducePow, Nat.reduceSub, Nat.reduceLT, Nat.reduceEqDiff, Nat.reduceAdd, Nat.reduceMul, ↓reduceIte, reduceCtorEq, eq4, h2]; (first | (refine hK1 _ ?_; clear hK1 K1) | (refine ⟨?_, hK1 _ ?_⟩ <;> clear hK1 K1; first | (· (simp; done)) | (· (simp +contextual; done)) | (· (simp +contextual; omega)) | (· grind) | skip))
        have hstep : ∀ f', f = f' + 1 → ixf p s (f' + 1) pos = if p (Utf8.decode ⟨⟨s⟩⟩ pos).1 then (pos : Int) else ixf p s f' (pos + (Utf8.decode ⟨⟨s⟩⟩ pos).2) := by
          intro f' _
          simp only [ixf, hlt, if_true]
        obtain ⟨f', rfl⟩ : ∃ f', f = f' + 1 := ⟨f - 1, by omega⟩
        have hstep := hstep f' rfl
        have hw := decode_pos s pos hlt
        refine wps_cond (by simp only [go_sem, Nat.reduceLeDiff, Nat.reducePow, Nat.reduceSub, Nat.reduceLT, Nat.reduceEqDiff, Nat.reduceAdd, Nat.reduceMul, ↓reduceIte, reduceCtorEq]; rfl) (by simp) (fun hb => ?_) (fun hb => ?_)
        · refine wps_seq_k fun K1 hK1 => wps_reg ?_; simp only [go_sem, Nat.reduceLeDiff, Nat.reducePow, Nat.reduceSub, Nat.reduceLT, Nat.reduceEqDiff, Nat.reduceAdd, Nat.reduceMul, ↓reduceIte, reduceCtorEq]; (first | (refine hK1 _ ?_; clear hK1 K1) | (refine ⟨?_, hK1 _ ?_⟩ <;> clear hK1 K1; first | (· (simp; done)) | (· (simp +contextual; done)) | (· (simp +contextual; omega)) | (· grind) | skip))
          simp only [wps, endQ, resV, resVs, resV1, go_sem, Nat.reduceLeDiff, Nat.reducePow, Nat.reduceSub, Nat.reduceLT, Nat.reduceEqDiff, Nat.reduceAdd, Nat.reduceMul, ↓reduceIte, reduceCtorEq]
          simp at hb
          rw [hstep, hb] at hx
          simp at hx
          rw [← hx]
        · simp only [wps, endQ, resV, resVs, resV1, go_sem, Nat.reduceLeDiff, Nat.reducePow, Nat.reduceSub, Nat.reduceLT, Nat.reduceEqDiff, Nat.reduceAdd, Nat.reduceMul, ↓reduceIte, reduceCtorEq]
          simp at hb
          rw [hstep, hb] at hx
          simp at hx
          refine ⟨⟨_, f', rfl, hx, by omega, h1, h2⟩, ?_⟩
          simp only [h10]
          omega
      · simp at hb
    · refine oss_run ?_; simp only [go_sem, Nat.reduceLeDiff, Nat.reducePow, Nat.reduceSub, Nat.reduceLT, Nat.reduceEqDiff, Nat.reduceAdd, Nat.reduceMul, ↓reduceIte, reduceCtorEq]
      refine hK3 _ ?_; clear hK3 K3
      refine wps_seq_k fun K4 hK4 => ?_
      refine wps_cond (by simp only [go_sem, Nat.reduceLeDiff, Nat.reducePow, Nat.reduceSub, Nat.reduceLT, Nat.reduceEqDiff, Nat.reduceAdd, Nat.reduceMul, ↓reduceIte, reduceCtorEq]; rfl) (by simp) (fun hb => ?_) (fun hb => ?_)
      · simp at hb
      · refine hK2 _ ?_
        refine wps_seq_k fun K1 hK1 => wps_reg ?_; simp only [go_sem, Nat.reduceLeDiff, Nat.reducePow, Nat.reduceSub, Nat.reduceLT, Nat.reduceEqDiff, Nat.reduceAdd, Nat.reduceMul, ↓reduceIte, reduceCtorEq]; (first | (refine hK1 _ ?_; clear hK1 K1) | (refine ⟨?_, hK1 _ ?_⟩ <;> clear hK1 K1; first | (· (simp; done)) | (· (simp +contextual; done)) | (· (simp +contextual; omega)) | (· grind) | skip))
        simp only [wps, endQ, resV, resVs, resV1, go_sem, Nat.reduceLeDiff, Nat.reducePow, Nat.reduceSub, Nat.reduceLT, Nat.reduceEqDiff, Nat.reduceAdd, Nat.reduceMul, ↓reduceIte, reduceCtorEq]
        cases f with
        | zero => simp [← hx, ixf]
        | succ f => simp [← hx, ixf, Nat.not_lt.2 hge]
end Go.Eng.Tryz

/- Contracts: tags, numbers, spans. -/
namespace Go.Eng.Tryz
open Go.Proofs
attribute [local go_sem] oss_nil_eq Int.toNat_natCast maxLen Nat.zero_le run step opv slotV opvs dstLt evalQ constV isA setD upd_app guardB List.getD_cons_zero List.getD_cons_succ List.getD_nil V.tag V.cells decide_true decide_false Bool.false_eq_true if_false if_true ne_eq Nat.one_ne_zero not_false_eq_true keyKind cellOk List.forall_mem_cons List.not_mem_nil false_implies true_and and_true implies_true forall_const bump addrAdd loadA loadV part opV binV eqlV eqOk pickV unV convV boundV fillV storeTo splice List.getElem?_cons_zero List.getElem?_cons_succ List.take_succ_cons List.take_zero List.drop_succ_cons List.drop_zero List.length_cons List.length_nil List.cons_append List.nil_append List.append_nil List.getElem_toArray List.getElem?_toArray List.size_toArray and_self eqV_tupl eqV_tupr fbt tbf beq_self_eq_true Bool.not_false Bool.not_true cond_true cond_false newVarW updH_self updH_updH isFuncFn runT stepT stepC isCallV callOf callV escL memN runW stepW stepCW runD stepD safeB slots ownS stepOwn reads runM stepM emptyH softEq V.soft softs readSl chunks partsV delKV slice0V stepE runE
set_option linter.unusedSimpArgs false
set_option linter.unusedVariables false

def tagNone (t : B) (w : Bool) : Bool := (t == []) && !w
def strongQ (t : B) (w : Bool) : Bool := tagNone t w || (tagR t && !w)
def spanQ (a b : Int) : Bool := decide (0 ≤ a) && (decide (a ≤ b) && decide (b ≤ 4611686018427387904))
def numQ (n least : Int) : Bool := decide (least ≤ n) && decide (n ≤ 1099511627776)
def weakEq (t u : B) : Bool := tagR t && (tagR u && (t == u))
def strongEq (t : B) (w : Bool) (u : B) (x : Bool) : Bool := weakEq t u && (!w && !x)
def taggedQ (t : B) (w : Bool) : Bool := tagNone t w || tagR t

theorem or32 (n : Nat) (h : n ≤ 1114111) : bitsV .or .i32 (n : Int) 32 = ((n ||| 32 : Nat) : Int) := by
  have h1 : (n ||| 32 : Nat) < 2 ^ 21 := Nat.or_lt_two_pow (by omega) (by decide)
  have h2 : (BitVec.ofInt 32 (n : Int) ||| BitVec.ofInt 32 32).toNat = n ||| 32 := by
    rw [BitVec.toNat_or, BitVec.toNat_ofInt, BitVec.toNat_ofInt]
    have e1 : ((n : Int) % ((2 ^ 32 : Nat) : Int)).toNat = n := by omega
    have e2 : ((32 : Int) % ((2 ^ 32 : Nat) : Int)).toNat = 32 := by decide
    rw [e1, e2]
  have h3 : bitsV .or .i32 (n : Int) 32 = IntKind.i32.wrap (((BitVec.ofInt 32 (n : Int) ||| BitVec.ofInt 32 32).toNat : Nat) : Int) := rfl
  rw [h3, h2]
  exact IntWalk.i32_in _ (by omega)

theorem hi1 (c : Int) (h : 128 ≤ c) (h' : c ≤ 1114111) : odd1 c = true := by simp [odd1]; omega
theorem hi2 (c : Int) (h : 128 ≤ c) (h' : c ≤ 1114111) : odd2 c = true := by simp [odd2]; omega
theorem hi3 (c : Int) (h : 128 ≤ c) (h' : c ≤ 1114111) : odd3 c = true := by
  obtain ⟨n, rfl⟩ := Int.eq_ofNat_of_zero_le (by omega : 0 ≤ c)
  unfold odd3
  rw [or32 n (by omega)]
  have : n ≤ n ||| 32 := Nat.left_le_or
  simp
  omega

def tenN (n : Nat) : Bool := (decide (97 ≤ n) && decide (n ≤ 122)) || (decide (65 ≤ n) && decide (n ≤ 90)) || (decide (48 ≤ n) && decide (n ≤ 57)) || decide (n = 95) || decide (n = 45)
theorem ten_all : ∀ n : Nat, n < 256 → (!((decide (97 ≤ (n ||| 32)) && decide ((n ||| 32) ≤ 122)) || (decide (48 ≤ n) && decide (n ≤ 57)) || decide (n = 45) || decide (n = 95))) = !tenN n := by decide +kernel
theorem odd3_byte (b : UInt8) : (!odd3 b.toNat) = tenC b := by
  have hb := b.toNat_lt
  have h := ten_all b.toNat hb
  have e : odd3 b.toNat = (!((decide (97 ≤ (b.toNat ||| 32)) && decide ((b.toNat ||| 32) ≤ 122)) || (decide (48 ≤ b.toNat) && decide (b.toNat ≤ 57)) || decide (b.toNat = 45) || decide (b.toNat = 95))) := by
    unfold odd3
    rw [or32 _ (by omega), Bool.eq_iff_iff]
    simp
    omega
  rw [e, h]
  simp [tenN, tenC]

theorem all_odd3 (s : B) : decide (ixf odd3 s s.length 0 < 0) = s.all tenC := by
  rw [ixf_neg hi3 s s.length 0 (by omega), List.drop_zero]
  simp only [odd3_byte]
theorem all_odd1 (s : B) : decide (ixf odd1 s s.length 0 < 0) = s.all vis := by
  rw [ixf_neg hi1 s s.length 0 (by omega), List.drop_zero]
  congr 1
  funext b
  (first | rw [V.bool.injEq] | simp only [V.bool.injEq, true_and, and_true] | skip); rw [Bool.eq_iff_iff]; simp [odd1, vis]
  omega
theorem all_odd2 (s : B) (h : tagR s = true) : decide (ixf odd2 s s.length 0 < 0) = true := by
  rw [ixf_neg hi2 s s.length 0 (by omega), List.drop_zero]
  simp only [tagR, Bool.and_eq_true] at h
  rw [List.all_eq_true]
  intro b hb
  have := List.all_eq_true.1 h.2 b hb
  simp [tagC, vis, odd2] at this ⊢
  omega

theorem s148 (s : B) (id : FuncId) (p : Int → Bool) (hp : ∀ (c : Int) (M : Heap), Pure Tryz.prog id [.int .i32 c] M (.bool (p c))) (M : Heap) :
    Pure Tryz.prog 148 [.str s, .fn (.func id) [] []] M (.int .i64 (ixf p s s.length 0)) := by
  refine Spec.strip (fun _ => false) ok148 (by simp) ?_
  unfold c148
  refine wps_seq_k fun K1 hK1 => wps_regT tab0 tab0_ok ?_; simp only [go_sem, Nat.reduceLeDiff, Nat.reducePow, Nat.reduceSub, Nat.reduceLT, Nat.reduceEqDiff, Nat.reduceAdd, Nat.reduceMul, ↓reduceIte, reduceCtorEq, tab0]; (first | (refine hK1 _ ?_; clear hK1 K1) | (refine ⟨?_, hK1 _ ?_⟩ <;> clear hK1 K1; first | (· (simp; done)) | (· (simp +contextual; done)) | (· (simp +contextual; omega)) | (· grind) | skip))
  refine wps_seq_k fun K1 hK1 => wps_regT tab0 tab0_ok ?_; simp only [go_sem, Nat.reduceLeDiff, Nat.reducePow, Nat.reduceSub, Nat.reduceLT, Nat.reduceEqDiff, Nat.reduceAdd, Nat.reduceMul, ↓reduceIte, reduceCtorEq, tab0, und4, und203, und9]; (first | (with_reducible refine oss_obl ?_ ?_; first | (· (simp; done)) | (· (simp +contextual; done)) | (· (simp +contextual; omega)) | (· grind) | skip) | skip)
  refine oss_call rfl (by simp only [go_sem, Nat.reduceLeDiff, Nat.reducePow, Nat.reduceSub, Nat.reduceLT, Nat.reduceEqDiff, Nat.reduceAdd, Nat.reduceMul, ↓reduceIte, reduceCtorEq, tab0]; rfl) (by simp) (s171 s id p hp _) ?_; rintro _ _ ⟨rfl, rfl⟩
  refine oss_runT tab0 tab0_ok ?_; simp only [go_sem, Nat.reduceLeDiff, Nat.reducePow, Nat.reduceSub, Nat.reduceLT, Nat.reduceEqDiff, Nat.reduceAdd, Nat.reduceMul, ↓reduceIte, reduceCtorEq, tab0]; (first | (refine hK1 _ ?_; clear hK1 K1) | (refine ⟨?_, hK1 _ ?_⟩ <;> clear hK1 K1; first | (· (simp; done)) | (· (simp +contextual; done)) | (· (simp +contextual; omega)) | (· grind) | skip))
  simp only [wps, endQ, resV, resVs, resV1, go_sem, Nat.reduceLeDiff, Nat.reducePow, Nat.reduceSub, Nat.reduceLT, Nat.reduceEqDiff, Nat.reduceAdd, Nat.reduceMul, ↓reduceIte, reduceCtorEq, tab0]

theorem s138 (M : Heap) : Pure Tryz.prog 138 [] M (.int .i64 4611686018427387904) := by
  refine Spec.strip (fun _ => false) ok138 (by simp) ?_
  unfold c138
  refine wps_seq_k fun K1 hK1 => wps_regT tab0 tab0_ok ?_; simp only [go_sem, Nat.reduceLeDiff, Nat.reducePow, Nat.reduceSub, Nat.reduceLT, Nat.reduceEqDiff, Nat.reduceAdd, Nat.reduceMul, ↓reduceIte, reduceCtorEq, tab0]; (first | (refine hK1 _ ?_; clear hK1 K1) | (refine ⟨?_, hK1 _ ?_⟩ <;> clear hK1 K1; first | (· (simp; done)) | (· (simp +contextual; done)) | (· (simp +contextual; omega)) | (· grind) | skip))
  refine wps_seq_k fun K1 hK1 => wps_regT tab0 tab0_ok ?_; simp only [go_sem, Nat.reduceLeDiff, Nat.reducePow, Nat.reduceSub, Nat.reduceLT, Nat.reduceEqDiff, Nat.reduceAdd, Nat.reduceMul, ↓reduceIte, reduceCtorEq, tab0]; (first | (refine hK1 _ ?_; clear hK1 K1) | (refine ⟨?_, hK1 _ ?_⟩ <;> clear hK1 K1; first | (· (simp; done)) | (· (simp +contextual; done)) | (· (simp +contextual; omega)) | (· grind) | skip))
  simp only [wps, endQ, resV, resVs, resV1, go_sem, Nat.reduceLeDiff, Nat.reducePow, Nat.reduceSub, Nat.reduceLT, Nat.reduceEqDiff, Nat.reduceAdd, Nat.reduceMul, ↓reduceIte, reduceCtorEq, tab0]

theorem s123 (n l : Int) (M : Heap) : Pure Tryz.prog 123 [.int .i64 n, .int .i64 l] M (.bool (numQ n l)) := by
  refine Spec.strip (fun _ => false) ok123 (by simp) ?_
  unfold c123
  refine wps_seq_k fun K1 hK1 => wps_regT tab0 tab0_ok ?_; simp only [go_sem, Nat.reduceLeDiff, Nat.reducePow, Nat.reduceSub, Nat.reduceLT, Nat.reduceEqDiff, Nat.reduceAdd, Nat.reduceMul, ↓reduceIte, reduceCtorEq, tab0]; (first | (refine hK1 _ ?_; clear hK1 K1) | (refine ⟨?_, hK1 _ ?_⟩ <;> clear hK1 K1; first | (· (simp; done)) | (· (simp +contextual; done)) | (· (simp +contextual; omega)) | (· grind) | skip))
  refine wps_seq_k fun K1 hK1 => wps_regT tab0 tab0_ok ?_; simp only [go_sem, Nat.reduceLeDiff, Nat.reducePow, Nat.reduceSub, Nat.reduceLT, Nat.reduceEqDiff, Nat.reduceAdd, Nat.reduceMul, ↓reduceIte, reduceCtorEq, tab0]; (first | (refine hK1 _ ?_; clear hK1 K1) | (refine ⟨?_, hK1 _ ?_⟩ <;> clear hK1 K1; first | (· (simp; done)) | (· (simp +contextual; done)) | (· (simp +contextual; omega)) | (· grind) | skip))
  simp only [wps, endQ, resV, resVs, resV1, go_sem, Nat.reduceLeDiff, Nat.reducePow, Nat.reduceSub, Nat.reduceLT, Nat.reduceEqDiff, Nat.reduceAdd, Nat.reduceMul, ↓reduceIte, reduceCtorEq, tab0]
  simp [numQ]


theorem s133 (t : B) (w : Bool) (M : Heap) : Pure Tryz.prog 133 [.agg [.str t, .bool w]] M (.bool (tagNone t w)) := by
  refine Spec.strip (fun _ => false) ok133 (by simp) ?_
  unfold c133
  refine wps_seq_k fun K1 hK1 => wps_regT tab0 tab0_ok ?_; simp only [go_sem, Nat.reduceLeDiff, Nat.reducePow, Nat.reduceSub, Nat.reduceLT, Nat.reduceEqDiff, Nat.reduceAdd, Nat.reduceMul, ↓reduceIte, reduceCtorEq, tab0]; (first | (refine hK1 _ ?_; clear hK1 K1) | (refine ⟨?_, hK1 _ ?_⟩ <;> clear hK1 K1; first | (· (simp; done)) | (· (simp +contextual; done)) | (· (simp +contextual; omega)) | (· grind) | skip))
  refine wps_seq_k fun K1 hK1 => wps_regT tab0 tab0_ok ?_; simp only [go_sem, Nat.reduceLeDiff, Nat.reducePow, Nat.reduceSub, Nat.reduceLT, Nat.reduceEqDiff, Nat.reduceAdd, Nat.reduceMul, ↓reduceIte, reduceCtorEq, tab0, fi36_0, fi36_1, ti4, ti9]; (first | (refine hK1 _ ?_; clear hK1 K1) | (refine ⟨?_, hK1 _ ?_⟩ <;> clear hK1 K1; first | (· (simp; done)) | (· (simp +contextual; done)) | (· (simp +contextual; omega)) | (· grind) | skip))
  simp only [wps, endQ, resV, resVs, resV1, go_sem, Nat.reduceLeDiff, Nat.reducePow, Nat.reduceSub, Nat.reduceLT, Nat.reduceEqDiff, Nat.reduceAdd, Nat.reduceMul, ↓reduceIte, reduceCtorEq, tab0]
  (first | rw [V.bool.injEq] | simp only [V.bool.injEq, true_and, and_true] | skip); rw [Bool.eq_iff_iff]; simp [tagNone]

def tab1 : Tab := fun M id vs => match id, vs with
  | 148, [.str s, .fn (.func 149) [] []] => some (True, .int .i64 (ixf odd2 s s.length 0))
  | 148, [.str s, .fn (.func 150) [] []] => some (True, .int .i64 (ixf odd3 s s.length 0))
  | 148, [.str s, .fn (.func 152) [] []] => some (True, .int .i64 (ixf odd1 s s.length 0))
  | 138, [] => some (True, .int .i64 4611686018427387904)
  | 123, [.int .i64 n, .int .i64 l] => some (True, .bool (numQ n l))
  | 133, [.agg [.str t, .bool w]] => some (True, .bool (tagNone t w))
  | 151, [.str s, .str p] => some (True, .bool (p.isPrefixOf s))
  | id, vs => tab0 M id vs

theorem tab1_ok : TabOk Tryz.prog tab1 := by
  intro M id vs g r h hg
  unfold tab1 at h
  split at h <;> (try simp only [Option.some.injEq, Prod.mk.injEq, reduceCtorEq] at h) <;> (try (obtain ⟨rfl, rfl⟩ := h))
  · exact s148 _ _ _ s149 _
  · exact s148 _ _ _ s150 _
  · exact s148 _ _ _ s152 _
  · exact s138 _
  · exact s123 _ _ _
  · exact s133 _ _ _
  · exact s151 _ _ _
  · exact tab0_ok _ _ _ _ _ h hg

theorem s127 (t u : B) (w x : Bool) (M : Heap) : Pure Tryz.prog 127 [.agg [.str t, .bool w], .agg [.str u, .bool x]] M (.bool (weakEq t u)) := by
  refine Spec.strip (fun _ => false) ok127 (by simp) ?_
  unfold c127
  refine wps_seq_k fun K1 hK1 => wps_regT tab1 tab1_ok ?_; simp only [go_sem, Nat.reduceLeDiff, Nat.reducePow, Nat.reduceSub, Nat.reduceLT, Nat.reduceEqDiff, Nat.reduceAdd, Nat.reduceMul, ↓reduceIte, reduceCtorEq, tab1]; (first | (refine hK1 _ ?_; clear hK1 K1) | (refine ⟨?_, hK1 _ ?_⟩ <;> clear hK1 K1; first | (· (simp; done)) | (· (simp +contextual; done)) | (· (simp +contextual; omega)) | (· grind) | skip))
  refine wps_seq_k fun K1 hK1 => wps_regT tab1 tab1_ok ?_; simp only [go_sem, Nat.reduceLeDiff, Nat.reducePow, Nat.reduceSub, Nat.reduceLT, Nat.reduceEqDiff, Nat.reduceAdd, Nat.reduceMul, ↓reduceIte, reduceCtorEq, tab1, fi36_0, ti36, ti9, tab0]; (first | (refine hK1 _ ?_; clear hK1 K1) | (refine ⟨?_, hK1 _ ?_⟩ <;> clear hK1 K1; first | (· (simp; done)) | (· (simp +contextual; done)) | (· (simp +contextual; omega)) | (· grind) | skip))
  simp only [wps, endQ, resV, resVs, resV1, go_sem, Nat.reduceLeDiff, Nat.reducePow, Nat.reduceSub, Nat.reduceLT, Nat.reduceEqDiff, Nat.reduceAdd, Nat.reduceMul, ↓reduceIte, reduceCtorEq, tab1]
  simp [weakEq, Bool.and_assoc]
theorem s137 (t u : B) (w x : Bool) (M : Heap) : Pure Tryz.prog 137 [.agg [.str t, .bool w], .agg [.str u, .bool x]] M (.bool (weakEq t u)) := by
  refine Spec.strip (fun _ => false) ok137 (by simp) ?_
  unfold c137
  refine wps_seq_k fun K1 hK1 => wps_regT tab1 tab1_ok ?_; simp only [go_sem, Nat.reduceLeDiff, Nat.reducePow, Nat.reduceSub, Nat.reduceLT, Nat.reduceEqDiff, Nat.reduceAdd, Nat.reduceMul, ↓reduceIte, reduceCtorEq, tab1]; (first | (refine hK1 _ ?_; clear hK1 K1) | (refine ⟨?_, hK1 _ ?_⟩ <;> clear hK1 K1; first | (· (simp; done)) | (· (simp +contextual; done)) | (· (simp +contextual; omega)) | (· grind) | skip))
  refine wps_seq_k fun K1 hK1 => wps_regT tab1 tab1_ok ?_; simp only [go_sem, Nat.reduceLeDiff, Nat.reducePow, Nat.reduceSub, Nat.reduceLT, Nat.reduceEqDiff, Nat.reduceAdd, Nat.reduceMul, ↓reduceIte, reduceCtorEq, tab1, fi36_0, ti36, ti9, tab0]; (first | (refine hK1 _ ?_; clear hK1 K1) | (refine ⟨?_, hK1 _ ?_⟩ <;> clear hK1 K1; first | (· (simp; done)) | (· (simp +contextual; done)) | (· (simp +contextual; omega)) | (· grind) | skip))
  simp only [wps, endQ, resV, resVs, resV1, go_sem, Nat.reduceLeDiff, Nat.reducePow, Nat.reduceSub, Nat.reduceLT, Nat.reduceEqDiff, Nat.reduceAdd, Nat.reduceMul, ↓reduceIte, reduceCtorEq, tab1]
  simp [weakEq, Bool.and_assoc]
theorem s122 (t : B) (w : Bool) (M : Heap) : Pure Tryz.prog 122 [.agg [.str t, .bool w]] M (.bool (taggedQ t w)) := by
  refine Spec.strip (fun _ => false) ok122 (by simp) ?_
  unfold c122
  refine wps_seq_k fun K1 hK1 => wps_regT tab1 tab1_ok ?_; simp only [go_sem, Nat.reduceLeDiff, Nat.reducePow, Nat.reduceSub, Nat.reduceLT, Nat.reduceEqDiff, Nat.reduceAdd, Nat.reduceMul, ↓reduceIte, reduceCtorEq, tab1]; (first | (refine hK1 _ ?_; clear hK1 K1) | (refine ⟨?_, hK1 _ ?_⟩ <;> clear hK1 K1; first | (· (simp; done)) | (· (simp +contextual; done)) | (· (simp +contextual; omega)) | (· grind) | skip))
  refine wps_seq_k fun K1 hK1 => wps_regT tab1 tab1_ok ?_; simp only [go_sem, Nat.reduceLeDiff, Nat.reducePow, Nat.reduceSub, Nat.reduceLT, Nat.reduceEqDiff, Nat.reduceAdd, Nat.reduceMul, ↓reduceIte, reduceCtorEq, tab1, bs36, eg36, eq36, fi36_0, ti36, ti9, und203, und9, zero36, tab0]; (first | (refine hK1 _ ?_; clear hK1 K1) | (refine ⟨?_, hK1 _ ?_⟩ <;> clear hK1 K1; first | (· (simp; done)) | (· (simp +contextual; done)) | (· (simp +contextual; omega)) | (· grind) | skip))
  simp only [wps, endQ, resV, resVs, resV1, go_sem, Nat.reduceLeDiff, Nat.reducePow, Nat.reduceSub, Nat.reduceLT, Nat.reduceEqDiff, Nat.reduceAdd, Nat.reduceMul, ↓reduceIte, reduceCtorEq, tab1]
  cases hq : tagR t
  · simp [taggedQ, tagNone, hq]
  · simp [taggedQ, tagNone, hq, all_odd2 t hq]
theorem s124 (s : B) (M : Heap) : Pure Tryz.prog 124 [.str s] M (.bool (tenantQ s)) := by
  refine Spec.strip (fun _ => false) ok124 (by simp) ?_
  unfold c124
  refine wps_seq_k fun K1 hK1 => wps_regT tab1 tab1_ok ?_; simp only [go_sem, Nat.reduceLeDiff, Nat.reducePow, Nat.reduceSub, Nat.reduceLT, Nat.reduceEqDiff, Nat.reduceAdd, Nat.reduceMul, ↓reduceIte, reduceCtorEq, tab1]; (first | (refine hK1 _ ?_; clear hK1 K1) | (refine ⟨?_, hK1 _ ?_⟩ <;> clear hK1 K1; first | (· (simp; done)) | (· (simp +contextual; done)) | (· (simp +contextual; omega)) | (· grind) | skip))
  refine wps_seq_k fun K1 hK1 => wps_regT tab1 tab1_ok ?_; simp only [go_sem, Nat.reduceLeDiff, Nat.reducePow, Nat.reduceSub, Nat.reduceLT, Nat.reduceEqDiff, Nat.reduceAdd, Nat.reduceMul, ↓reduceIte, reduceCtorEq, tab1]; (first | (refine hK1 _ ?_; clear hK1 K1) | (refine ⟨?_, hK1 _ ?_⟩ <;> clear hK1 K1; first | (· (simp; done)) | (· (simp +contextual; done)) | (· (simp +contextual; omega)) | (· grind) | skip))
  refine wps_seq_k fun K1 hK1 => wps_regT tab1 tab1_ok ?_; simp only [go_sem, Nat.reduceLeDiff, Nat.reducePow, Nat.reduceSub, Nat.reduceLT, Nat.reduceEqDiff, Nat.reduceAdd, Nat.reduceMul, ↓reduceIte, reduceCtorEq, tab1, und203, und9, tab0]; (first | (refine hK1 _ ?_; clear hK1 K1) | (refine ⟨?_, hK1 _ ?_⟩ <;> clear hK1 K1; first | (· (simp; done)) | (· (simp +contextual; done)) | (· (simp +contextual; omega)) | (· grind) | skip))
  simp only [wps, endQ, resV, resVs, resV1, go_sem, Nat.reduceLeDiff, Nat.reducePow, Nat.reduceSub, Nat.reduceLT, Nat.reduceEqDiff, Nat.reduceAdd, Nat.reduceMul, ↓reduceIte, reduceCtorEq, tab1]
  rw [all_odd3]
  (first | rw [V.bool.injEq] | simp only [V.bool.injEq, true_and, and_true] | skip); rw [Bool.eq_iff_iff]; simp [tenantQ]
  omega
theorem s125 (s : B) (M : Heap) : Pure Tryz.prog 125 [.str s] M (.bool (keyQ s)) := by
  refine Spec.strip (fun _ => false) ok125 (by simp) ?_
  unfold c125
  refine wps_seq_k fun K1 hK1 => wps_regT tab1 tab1_ok ?_; simp only [go_sem, Nat.reduceLeDiff, Nat.reducePow, Nat.reduceSub, Nat.reduceLT, Nat.reduceEqDiff, Nat.reduceAdd, Nat.reduceMul, ↓reduceIte, reduceCtorEq, tab1]; (first | (refine hK1 _ ?_; clear hK1 K1) | (refine ⟨?_, hK1 _ ?_⟩ <;> clear hK1 K1; first | (· (simp; done)) | (· (simp +contextual; done)) | (· (simp +contextual; omega)) | (· grind) | skip))
  refine wps_seq_k fun K1 hK1 => wps_regT tab1 tab1_ok ?_; simp only [go_sem, Nat.reduceLeDiff, Nat.reducePow, Nat.reduceSub, Nat.reduceLT, Nat.reduceEqDiff, Nat.reduceAdd, Nat.reduceMul, ↓reduceIte, reduceCtorEq, tab1, und203, und9, tab0]; (first | (refine hK1 _ ?_; clear hK1 K1) | (refine ⟨?_, hK1 _ ?_⟩ <;> clear hK1 K1; first | (· (simp; done)) | (· (simp +contextual; done)) | (· (simp +contextual; omega)) | (· grind) | skip))
  simp only [wps, endQ, resV, resVs, resV1, go_sem, Nat.reduceLeDiff, Nat.reducePow, Nat.reduceSub, Nat.reduceLT, Nat.reduceEqDiff, Nat.reduceAdd, Nat.reduceMul, ↓reduceIte, reduceCtorEq, tab1]
  rw [all_odd1]
  (first | rw [V.bool.injEq] | simp only [V.bool.injEq, true_and, and_true] | skip); rw [Bool.eq_iff_iff]; simp [keyQ, List.length_pos_iff]
  omega
theorem s104 (a b : Int) (M : Heap) : Pure Tryz.prog 104 [.agg [.int .i64 a, .int .i64 b]] M (.bool (spanQ a b)) := by
  refine Spec.strip (fun _ => false) ok104 (by simp) ?_
  unfold c104
  refine wps_seq_k fun K1 hK1 => wps_regT tab1 tab1_ok ?_; simp only [go_sem, Nat.reduceLeDiff, Nat.reducePow, Nat.reduceSub, Nat.reduceLT, Nat.reduceEqDiff, Nat.reduceAdd, Nat.reduceMul, ↓reduceIte, reduceCtorEq, tab1]; (first | (refine hK1 _ ?_; clear hK1 K1) | (refine ⟨?_, hK1 _ ?_⟩ <;> clear hK1 K1; first | (· (simp; done)) | (· (simp +contextual; done)) | (· (simp +contextual; omega)) | (· grind) | skip))
  refine wps_seq_k fun K1 hK1 => wps_drawD tab1 tab1_ok (by kernel_rfl) rfl (by kernel_rfl) (by simp only [go_sem, Nat.reduceLeDiff, Nat.reducePow, Nat.reduceSub, Nat.reduceLT, Nat.reduceEqDiff, Nat.reduceAdd, Nat.reduceMul, ↓reduceIte, reduceCtorEq, tab1, fi41_0, fi41_1, ti2, tab0]; rfl) ?_; (first | (refine hK1 _ ?_; clear hK1 K1) | (refine ⟨?_, hK1 _ ?_⟩ <;> clear hK1 K1; first | (· (simp; done)) | (· (simp +contextual; done)) | (· (simp +contextual; omega)) | (· grind) | skip))
  simp only [wps, endQ, resV, resVs, resV1, go_sem, Nat.reduceLeDiff, Nat.reducePow, Nat.reduceSub, Nat.reduceLT, Nat.reduceEqDiff, Nat.reduceAdd, Nat.reduceMul, ↓reduceIte, reduceCtorEq, tab1]
  (first | rw [V.bool.injEq] | simp only [V.bool.injEq, true_and, and_true] | skip); rw [Bool.eq_iff_iff]; simp [spanQ, and_assoc]
end Go.Eng.Tryz

/- Contracts: keys. -/
namespace Go.Eng.Tryz
open Go.Proofs
attribute [local go_sem] oss_nil_eq Int.toNat_natCast maxLen Nat.zero_le run step opv slotV opvs dstLt evalQ constV isA setD upd_app guardB List.getD_cons_zero List.getD_cons_succ List.getD_nil V.tag V.cells decide_true decide_false Bool.false_eq_true if_false if_true ne_eq Nat.one_ne_zero not_false_eq_true keyKind cellOk List.forall_mem_cons List.not_mem_nil false_implies true_and and_true implies_true forall_const bump addrAdd loadA loadV part opV binV eqlV eqOk pickV unV convV boundV fillV storeTo splice List.getElem?_cons_zero List.getElem?_cons_succ List.take_succ_cons List.take_zero List.drop_succ_cons List.drop_zero List.length_cons List.length_nil List.cons_append List.nil_append List.append_nil List.getElem_toArray List.getElem?_toArray List.size_toArray and_self eqV_tupl eqV_tupr fbt tbf beq_self_eq_true Bool.not_false Bool.not_true cond_true cond_false newVarW updH_self updH_updH isFuncFn runT stepT stepC isCallV callOf callV escL memN runW stepW stepCW runD stepD safeB slots ownS stepOwn reads runM stepM emptyH softEq V.soft softs readSl chunks partsV delKV slice0V stepE runE
set_option linter.unusedSimpArgs false
set_option linter.unusedVariables false

theorem s135 (ks : List B) (M : Heap) : Pure Tryz.prog 135 [.lst (sl ks)] M (.bool (keysQ ks)) := by
  refine Spec.strip' (fun _ => false) ok135 (by simp) (fun hlen => ?_)
  have hlen := sl_lens hlen
  unfold c135
  refine wps_seq_k fun K1 hK1 => wps_regT tab1 tab1_ok ?_; simp only [go_sem, Nat.reduceLeDiff, Nat.reducePow, Nat.reduceSub, Nat.reduceLT, Nat.reduceEqDiff, Nat.reduceAdd, Nat.reduceMul, ↓reduceIte, reduceCtorEq, tab1]; (first | (refine hK1 _ ?_; clear hK1 K1) | (refine ⟨?_, hK1 _ ?_⟩ <;> clear hK1 K1; first | (· (simp; done)) | (· (simp +contextual; done)) | (· (simp +contextual; omega)) | (· grind) | skip))
  refine wps_seq_k fun K2 hK2 => ?_
  refine wps_seq_k fun K1 hK1 => wps_regT tab1 tab1_ok ?_; simp only [go_sem, Nat.reduceLeDiff, Nat.reducePow, Nat.reduceSub, Nat.reduceLT, Nat.reduceEqDiff, Nat.reduceAdd, Nat.reduceMul, ↓reduceIte, reduceCtorEq, tab1, und37, sl_len]; (first | (refine hK1 _ ?_; clear hK1 K1) | (refine ⟨?_, hK1 _ ?_⟩ <;> clear hK1 K1; first | (· (simp; done)) | (· (simp +contextual; done)) | (· (simp +contextual; omega)) | (· grind) | skip))
  refine wps_cond (by simp only [go_sem, Nat.reduceLeDiff, Nat.reducePow, Nat.reduceSub, Nat.reduceLT, Nat.reduceEqDiff, Nat.reduceAdd, Nat.reduceMul, ↓reduceIte, reduceCtorEq, tab1]; rfl) (by simp) (fun hb => ?_) (fun hb => ?_)
  · refine wps_seq_k fun K1 hK1 => wps_regT tab1 tab1_ok ?_; simp only [go_sem, Nat.reduceLeDiff, Nat.reducePow, Nat.reduceSub, Nat.reduceLT, Nat.reduceEqDiff, Nat.reduceAdd, Nat.reduceMul, ↓reduceIte, reduceCtorEq, tab1]; (first | (refine hK1 _ ?_; clear hK1 K1) | (refine ⟨?_, hK1 _ ?_⟩ <;> clear hK1 K1; first | (· (simp; done)) | (· (simp +contextual; done)) | (· (simp +contextual; omega)) | (· grind) | skip))
    simp only [wps, endQ, resV, resVs, resV1, go_sem, Nat.reduceLeDiff, Nat.reducePow, Nat.reduceSub, Nat.reduceLT, Nat.reduceEqDiff, Nat.reduceAdd, Nat.reduceMul, ↓reduceIte, reduceCtorEq, tab1]
    (first | rw [V.bool.injEq] | simp only [V.bool.injEq, true_and, and_true] | skip); rw [Bool.eq_iff_iff]; simp [keysQ]
    simp at hb
    omega
  · refine hK2 _ ?_; clear hK2 K2
    have hb0 := hb; clear hb
    simp at hb0
    refine wps_seq_k fun K3 hK3 => ?_
    refine wps_seq_k fun K1 hK1 => wps_regT tab1 tab1_ok ?_; simp only [go_sem, Nat.reduceLeDiff, Nat.reducePow, Nat.reduceSub, Nat.reduceLT, Nat.reduceEqDiff, Nat.reduceAdd, Nat.reduceMul, ↓reduceIte, reduceCtorEq, tab1]; (first | (refine hK1 _ ?_; clear hK1 K1) | (refine ⟨?_, hK1 _ ?_⟩ <;> clear hK1 K1; first | (· (simp; done)) | (· (simp +contextual; done)) | (· (simp +contextual; omega)) | (· grind) | skip))
    refine wps_block (wps_count 3 ks.length (fun k st => (∀ j, j < k → keyAt ks j) ∧ st.M = M ∧ st.fr 0 = .lst (sl ks)) ?_ ?_)
    · exact ⟨0, by simp, by simp only [go_sem, Nat.reduceLeDiff, Nat.reducePow, Nat.reduceSub, Nat.reduceLT, Nat.reduceEqDiff, Nat.reduceAdd, Nat.reduceMul, ↓reduceIte, reduceCtorEq, tab1]; rfl, by simp, by simp only [go_sem, Nat.reduceLeDiff, Nat.reducePow, Nat.reduceSub, Nat.reduceLT, Nat.reduceEqDiff, Nat.reduceAdd, Nat.reduceMul, ↓reduceIte, reduceCtorEq, tab1], by simp only [go_sem, Nat.reduceLeDiff, Nat.reducePow, Nat.reduceSub, Nat.reduceLT, Nat.reduceEqDiff, Nat.reduceAdd, Nat.reduceMul, ↓reduceIte, reduceCtorEq, tab1]⟩
    · rintro k fr M' gen hk hi ⟨hall, hM, h0⟩
      simp only at hM h0 hi; subst hM
      refine wps_seq_k fun K4 hK4 => ?_
      refine wps_seq_k fun K1 hK1 => wps_regT tab1 tab1_ok ?_; simp only [go_sem, Nat.reduceLeDiff, Nat.reducePow, Nat.reduceSub, Nat.reduceLT, Nat.reduceEqDiff, Nat.reduceAdd, Nat.reduceMul, ↓reduceIte, reduceCtorEq, tab1, und37, hi, h0, sl_len]; (first | (refine hK1 _ ?_; clear hK1 K1) | (refine ⟨?_, hK1 _ ?_⟩ <;> clear hK1 K1; first | (· (simp; done)) | (· (simp +contextual; done)) | (· (simp +contextual; omega)) | (· grind) | skip))
      refine wps_cond (by simp only [go_sem, Nat.reduceLeDiff, Nat.reducePow, Nat.reduceSub, Nat.reduceLT, Nat.reduceEqDiff, Nat.reduceAdd, Nat.reduceMul, ↓reduceIte, reduceCtorEq, tab1]; rfl) (by simp) (fun hb => ?_) (fun hb => ?_)
      · refine hK4 _ ?_; clear hK4 K4
        simp only [decide_eq_true_eq] at hb
        have hk' : k < ks.length := by omega
        have hg := sl_get hk'
        refine wps_seq_k fun K5 hK5 => ?_
        refine wps_block ?_
        refine wps_seq_k fun K6 hK6 => ?_
        refine wps_seq_k fun K1 hK1 => wps_regT tab1 tab1_ok ?_; simp only [go_sem, Nat.reduceLeDiff, Nat.reducePow, Nat.reduceSub, Nat.reduceLT, Nat.reduceEqDiff, Nat.reduceAdd, Nat.reduceMul, ↓reduceIte, reduceCtorEq, tab1, ti9, und37, und9, hi, h0, sl_len, hg, tab0]; (first | (refine hK1 _ ?_; clear hK1 K1) | (refine ⟨?_, hK1 _ ?_⟩ <;> clear hK1 K1; first | (· (simp; done)) | (· (simp +contextual; done)) | (· (simp +contextual; omega)) | (· grind) | skip))
        refine wps_cond (by simp only [go_sem, Nat.reduceLeDiff, Nat.reducePow, Nat.reduceSub, Nat.reduceLT, Nat.reduceEqDiff, Nat.reduceAdd, Nat.reduceMul, ↓reduceIte, reduceCtorEq, tab1]; rfl) (by simp) (fun hb => ?_) (fun hb => ?_)
        · refine wps_seq_k fun K1 hK1 => wps_regT tab1 tab1_ok ?_; simp only [go_sem, Nat.reduceLeDiff, Nat.reducePow, Nat.reduceSub, Nat.reduceLT, Nat.reduceEqDiff, Nat.reduceAdd, Nat.reduceMul, ↓reduceIte, reduceCtorEq, tab1]; (first | (refine hK1 _ ?_; clear hK1 K1) | (refine ⟨?_, hK1 _ ?_⟩ <;> clear hK1 K1; first | (· (simp; done)) | (· (simp +contextual; done)) | (· (simp +contextual; omega)) | (· grind) | skip))
          simp only [wps, endQ, resV, resVs, resV1, go_sem, Nat.reduceLeDiff, Nat.reducePow, Nat.reduceSub, Nat.reduceLT, Nat.reduceEqDiff, Nat.reduceAdd, Nat.reduceMul, ↓reduceIte, reduceCtorEq, tab1]
          simp only [true_and, and_true, V.bool.injEq]
          refine (keysQ_bad hk' ?_).symm
          simp at hb
          rintro ⟨h, _⟩
          simp [List.getD_eq_getElem?_getD, hb] at h
        · refine hK6 _ ?_; clear hK6 K6
          have hkey := hb; clear hb
          refine wps_seq_k fun K1 hK1 => wps_regT tab1 tab1_ok ?_; simp only [go_sem, Nat.reduceLeDiff, Nat.reducePow, Nat.reduceSub, Nat.reduceLT, Nat.reduceEqDiff, Nat.reduceAdd, Nat.reduceMul, ↓reduceIte, reduceCtorEq, tab1]; (first | (refine hK1 _ ?_; clear hK1 K1) | (refine ⟨?_, hK1 _ ?_⟩ <;> clear hK1 K1; first | (· (simp; done)) | (· (simp +contextual; done)) | (· (simp +contextual; omega)) | (· grind) | skip))
          refine wps_block (wps_count 4 k (fun m st => (∀ j, j < m → ks.getD j [] ≠ ks.getD k []) ∧ st.M = M' ∧ st.fr 0 = .lst (sl ks) ∧ st.fr 3 = .int .i64 k) ?_ ?_)
          · exact ⟨0, by simp, by simp only [go_sem, Nat.reduceLeDiff, Nat.reducePow, Nat.reduceSub, Nat.reduceLT, Nat.reduceEqDiff, Nat.reduceAdd, Nat.reduceMul, ↓reduceIte, reduceCtorEq, tab1]; rfl, by simp, by simp only [go_sem, Nat.reduceLeDiff, Nat.reducePow, Nat.reduceSub, Nat.reduceLT, Nat.reduceEqDiff, Nat.reduceAdd, Nat.reduceMul, ↓reduceIte, reduceCtorEq, tab1], by simp only [go_sem, Nat.reduceLeDiff, Nat.reducePow, Nat.reduceSub, Nat.reduceLT, Nat.reduceEqDiff, Nat.reduceAdd, Nat.reduceMul, ↓reduceIte, reduceCtorEq, tab1, h0], by simp only [go_sem, Nat.reduceLeDiff, Nat.reducePow, Nat.reduceSub, Nat.reduceLT, Nat.reduceEqDiff, Nat.reduceAdd, Nat.reduceMul, ↓reduceIte, reduceCtorEq, tab1, hi]⟩
          · clear hi h0
            clear fr gen
            rintro m fr M1 gen hm hi1 ⟨hall1, hM, h0, hi⟩
            simp only at hM hi1 h0 hi; subst hM
            refine wps_seq_k fun K7 hK7 => ?_
            refine wps_seq_k fun K1 hK1 => wps_regT tab1 tab1_ok ?_; simp only [go_sem, Nat.reduceLeDiff, Nat.reducePow, Nat.reduceSub, Nat.reduceLT, Nat.reduceEqDiff, Nat.reduceAdd, Nat.reduceMul, ↓reduceIte, reduceCtorEq, tab1, hi, hi1]; (first | (refine hK1 _ ?_; clear hK1 K1) | (refine ⟨?_, hK1 _ ?_⟩ <;> clear hK1 K1; first | (· (simp; done)) | (· (simp +contextual; done)) | (· (simp +contextual; omega)) | (· grind) | skip))
            refine wps_cond (by simp only [go_sem, Nat.reduceLeDiff, Nat.reducePow, Nat.reduceSub, Nat.reduceLT, Nat.reduceEqDiff, Nat.reduceAdd, Nat.reduceMul, ↓reduceIte, reduceCtorEq, tab1]; rfl) (by simp) (fun hb => ?_) (fun hb => ?_)
            · refine hK7 _ ?_; clear hK7 K7
              simp only [decide_eq_true_eq] at hb
              have hm' : m < ks.length := by omega
              have hg1 := sl_get hm'
              refine wps_seq_k fun K8 hK8 => ?_
              refine wps_block ?_
              refine wps_seq_k fun K1 hK1 => wps_drawD tab1 tab1_ok (by kernel_rfl) rfl (by kernel_rfl) (by simp only [go_sem, Nat.reduceLeDiff, Nat.reducePow, Nat.reduceSub, Nat.reduceLT, Nat.reduceEqDiff, Nat.reduceAdd, Nat.reduceMul, ↓reduceIte, reduceCtorEq, tab1, ti9, und37, hi, hi1, h0, sl_len, hg, hg1, tab0]; rfl) ?_; (first | (refine hK1 _ ?_; clear hK1 K1) | (refine ⟨?_, hK1 _ ?_⟩ <;> clear hK1 K1; first | (· (simp; done)) | (· (simp +contextual; done)) | (· (simp +contextual; omega)) | (· grind) | skip))
              refine wps_cond (by simp only [go_sem, Nat.reduceLeDiff, Nat.reducePow, Nat.reduceSub, Nat.reduceLT, Nat.reduceEqDiff, Nat.reduceAdd, Nat.reduceMul, ↓reduceIte, reduceCtorEq, tab1]; rfl) (by simp) (fun hb => ?_) (fun hb => ?_)
              · refine wps_seq_k fun K1 hK1 => wps_regT tab1 tab1_ok ?_; simp only [go_sem, Nat.reduceLeDiff, Nat.reducePow, Nat.reduceSub, Nat.reduceLT, Nat.reduceEqDiff, Nat.reduceAdd, Nat.reduceMul, ↓reduceIte, reduceCtorEq, tab1]; (first | (refine hK1 _ ?_; clear hK1 K1) | (refine ⟨?_, hK1 _ ?_⟩ <;> clear hK1 K1; first | (· (simp; done)) | (· (simp +contextual; done)) | (· (simp +contextual; omega)) | (· grind) | skip))
                simp only [wps, endQ, resV, resVs, resV1, go_sem, Nat.reduceLeDiff, Nat.reducePow, Nat.reduceSub, Nat.reduceLT, Nat.reduceEqDiff, Nat.reduceAdd, Nat.reduceMul, ↓reduceIte, reduceCtorEq, tab1]
                simp only [true_and, and_true, V.bool.injEq]
                refine (keysQ_bad hk' ?_).symm
                rintro ⟨_, h⟩
                exact h m (by omega) (by simpa using hb)
              · refine hK8 _ ?_; clear hK8 K8
                refine wps_regT tab1 tab1_ok ?_; simp only [go_sem, Nat.reduceLeDiff, Nat.reducePow, Nat.reduceSub, Nat.reduceLT, Nat.reduceEqDiff, Nat.reduceAdd, Nat.reduceMul, ↓reduceIte, reduceCtorEq, tab1, hi1]
                refine ⟨by omega, ?_, ?_, h0, hi⟩
                · rw [IntWalk.i64_in _ (by omega)]
                · intro j hj
                  by_cases hjm : j = m
                  · subst hjm; simpa using hb
                  · exact hall1 j (by omega)
            · refine hK5 _ ?_
              refine wps_regT tab1 tab1_ok ?_; simp only [go_sem, Nat.reduceLeDiff, Nat.reducePow, Nat.reduceSub, Nat.reduceLT, Nat.reduceEqDiff, Nat.reduceAdd, Nat.reduceMul, ↓reduceIte, reduceCtorEq, tab1, hi]
              refine ⟨by omega, ?_, ?_, h0⟩
              · rw [IntWalk.i64_in _ (by omega)]
              · intro j hj
                by_cases hjk : j = k
                · subst hjk
                  simp at hb
                  refine ⟨by simpa using hkey, fun m' hm' => hall1 m' (by omega)⟩
                · exact hall j (by omega)
      · refine hK3 _ ?_
        refine wps_seq_k fun K1 hK1 => wps_regT tab1 tab1_ok ?_; simp only [go_sem, Nat.reduceLeDiff, Nat.reducePow, Nat.reduceSub, Nat.reduceLT, Nat.reduceEqDiff, Nat.reduceAdd, Nat.reduceMul, ↓reduceIte, reduceCtorEq, tab1]; (first | (refine hK1 _ ?_; clear hK1 K1) | (refine ⟨?_, hK1 _ ?_⟩ <;> clear hK1 K1; first | (· (simp; done)) | (· (simp +contextual; done)) | (· (simp +contextual; omega)) | (· grind) | skip))
        simp only [wps, endQ, resV, resVs, resV1, go_sem, Nat.reduceLeDiff, Nat.reducePow, Nat.reduceSub, Nat.reduceLT, Nat.reduceEqDiff, Nat.reduceAdd, Nat.reduceMul, ↓reduceIte, reduceCtorEq, tab1]
        simp at hb
        have : k = ks.length := by omega
        subst this
        simp only [true_and, and_true, V.bool.injEq, keysQ]
        simp
        exact ⟨by omega, hall⟩

structure MetaD where
  (t : B) (w : Bool) (mod len have_ fresh while_ err : Int) (keys : List B) (ten : B) (keep : Bool)
def metaQ (m : MetaD) : Bool :=
  taggedQ m.t m.w && ((decide (-1 ≤ m.mod) && decide (m.mod ≤ 253402300799)) && (numQ m.len (-1) && (numQ m.have_ 0 && ((decide (m.len < 0) || decide (m.have_ = m.len)) &&
    (numQ m.fresh 0 && (numQ m.while_ 0 && (numQ m.err 0 && (keysQ m.keys && tenantQ m.ten))))))))

theorem tagged_byte {t : B} {w : Bool} (h : taggedQ t w = true) {k : Nat} (hk : k < t.length) : (t.getD k 0).toNat ≤ 126 := by
  simp only [taggedQ, Bool.or_eq_true, tagNone, Bool.and_eq_true, beq_iff_eq] at h
  rcases h with ⟨rfl, _⟩ | h
  · simp at hk
  · simp only [tagR, Bool.and_eq_true] at h
    have := all_getD h.2 hk
    simp [tagC, vis] at this ⊢
    omega

def tab2 : Tab := fun M id vs => match id, vs with
  | 135, [.lst es] => match unsl es with
    | some ks => some (True, .bool (keysQ ks))
    | none => none
  | id, vs => tab1 M id vs

theorem tab2_ok : TabOk Tryz.prog tab2 := by
  intro M id vs g r h hg
  unfold tab2 at h
  split at h <;> (try simp only [Option.some.injEq, Prod.mk.injEq, reduceCtorEq] at h) <;> (try (obtain ⟨rfl, rfl⟩ := h))
  · split at h <;> (try simp only [Option.some.injEq, Prod.mk.injEq, reduceCtorEq] at h)
    obtain ⟨rfl, rfl⟩ := h
    rename_i hu
    rw [unsl_eq hu]
    exact s135 _ _
  · exact tab1_ok _ _ _ _ _ h hg

theorem s94 (m : MetaD) (M : Heap) : Pure Tryz.prog 94 [.agg [.str m.t, .bool m.w, .int .i64 m.mod, .int .i64 m.len, .int .i64 m.have_, .int .i64 m.fresh, .int .i64 m.while_, .int .i64 m.err, .lst (sl m.keys), .str m.ten, .bool m.keep]] M (.bool (metaQ m)) := by
  obtain ⟨t, w, mod, len, have_, fresh, while_, err, keys, ten, keep⟩ := m
  refine Spec.strip' (fun _ => false) ok94 (by simp) (fun hlen => ?_)
  have hlen : t.length ≤ 9223372036854775807 := by
    have := hlen.1.1
    simpa [maxLen, lenOk] using this
  unfold c94
  refine wps_seq_k fun K1 hK1 => wps_regT tab2 tab2_ok ?_; simp only [go_sem, Nat.reduceLeDiff, Nat.reducePow, Nat.reduceSub, Nat.reduceLT, Nat.reduceEqDiff, Nat.reduceAdd, Nat.reduceMul, ↓reduceIte, reduceCtorEq, tab2]; (first | (refine hK1 _ ?_; clear hK1 K1) | (refine ⟨?_, hK1 _ ?_⟩ <;> clear hK1 K1; first | (· (simp; done)) | (· (simp +contextual; done)) | (· (simp +contextual; omega)) | (· grind) | skip))
  refine wps_seq_k fun K2 hK2 => ?_
  refine wps_seq_k fun K1 hK1 => wps_regT tab2 tab2_ok ?_; simp only [go_sem, Nat.reduceLeDiff, Nat.reducePow, Nat.reduceSub, Nat.reduceLT, Nat.reduceEqDiff, Nat.reduceAdd, Nat.reduceMul, ↓reduceIte, reduceCtorEq, tab2, fi39_0, ti36, tab1, tab0]; (first | (refine hK1 _ ?_; clear hK1 K1) | (refine ⟨?_, hK1 _ ?_⟩ <;> clear hK1 K1; first | (· (simp; done)) | (· (simp +contextual; done)) | (· (simp +contextual; omega)) | (· grind) | skip))
  refine wps_cond (by simp only [go_sem, Nat.reduceLeDiff, Nat.reducePow, Nat.reduceSub, Nat.reduceLT, Nat.reduceEqDiff, Nat.reduceAdd, Nat.reduceMul, ↓reduceIte, reduceCtorEq, tab2]; rfl) (by simp) (fun hb => ?_) (fun hb => ?_)
  · refine wps_seq_k fun K1 hK1 => wps_regT tab2 tab2_ok ?_; simp only [go_sem, Nat.reduceLeDiff, Nat.reducePow, Nat.reduceSub, Nat.reduceLT, Nat.reduceEqDiff, Nat.reduceAdd, Nat.reduceMul, ↓reduceIte, reduceCtorEq, tab2]; (first | (refine hK1 _ ?_; clear hK1 K1) | (refine ⟨?_, hK1 _ ?_⟩ <;> clear hK1 K1; first | (· (simp; done)) | (· (simp +contextual; done)) | (· (simp +contextual; omega)) | (· grind) | skip))
    simp only [wps, endQ, resV, resVs, resV1, go_sem, Nat.reduceLeDiff, Nat.reducePow, Nat.reduceSub, Nat.reduceLT, Nat.reduceEqDiff, Nat.reduceAdd, Nat.reduceMul, ↓reduceIte, reduceCtorEq, tab2]
    simp only [true_and, and_true, V.bool.injEq]
    simp at hb
    simp [metaQ, taggedQ, hb]
  · refine hK2 _ ?_; clear hK2 K2
    have htag : taggedQ t w = true := by
      revert hb
      simp [taggedQ]
      cases tagNone t w <;> simp
    clear hb
    refine wps_seq_k fun K3 hK3 => ?_
    refine wps_seq_k fun K1 hK1 => wps_regT tab2 tab2_ok ?_; simp only [go_sem, Nat.reduceLeDiff, Nat.reducePow, Nat.reduceSub, Nat.reduceLT, Nat.reduceEqDiff, Nat.reduceAdd, Nat.reduceMul, ↓reduceIte, reduceCtorEq, tab2]; (first | (refine hK1 _ ?_; clear hK1 K1) | (refine ⟨?_, hK1 _ ?_⟩ <;> clear hK1 K1; first | (· (simp; done)) | (· (simp +contextual; done)) | (· (simp +contextual; omega)) | (· grind) | skip))
    refine wps_block (wps_count 3 t.length (fun k st => st.M = M ∧ st.fr 1 = .box 0 [.str t, .bool w, .int .i64 mod, .int .i64 len, .int .i64 have_, .int .i64 fresh, .int .i64 while_, .int .i64 err, .lst (sl keys), .str ten, .bool keep]) ?_ ?_)
    · exact ⟨0, by simp, by simp only [go_sem, Nat.reduceLeDiff, Nat.reducePow, Nat.reduceSub, Nat.reduceLT, Nat.reduceEqDiff, Nat.reduceAdd, Nat.reduceMul, ↓reduceIte, reduceCtorEq, tab2]; rfl, by simp only [go_sem, Nat.reduceLeDiff, Nat.reducePow, Nat.reduceSub, Nat.reduceLT, Nat.reduceEqDiff, Nat.reduceAdd, Nat.reduceMul, ↓reduceIte, reduceCtorEq, tab2], by simp only [go_sem, Nat.reduceLeDiff, Nat.reducePow, Nat.reduceSub, Nat.reduceLT, Nat.reduceEqDiff, Nat.reduceAdd, Nat.reduceMul, ↓reduceIte, reduceCtorEq, tab2]⟩
    · rintro k fr M' gen hk hi ⟨hM, h1⟩
      simp only at hM h1 hi; subst hM
      refine wps_seq_k fun K4 hK4 => ?_
      refine wps_seq_k fun K1 hK1 => wps_regT tab2 tab2_ok ?_; simp only [go_sem, Nat.reduceLeDiff, Nat.reducePow, Nat.reduceSub, Nat.reduceLT, Nat.reduceEqDiff, Nat.reduceAdd, Nat.reduceMul, ↓reduceIte, reduceCtorEq, tab2, fi36_0, fi39_0, ti9, und9, hi, h1]; (first | (refine hK1 _ ?_; clear hK1 K1) | (refine ⟨?_, hK1 _ ?_⟩ <;> clear hK1 K1; first | (· (simp; done)) | (· (simp +contextual; done)) | (· (simp +contextual; omega)) | (· grind) | skip))
      refine wps_cond (by simp only [go_sem, Nat.reduceLeDiff, Nat.reducePow, Nat.reduceSub, Nat.reduceLT, Nat.reduceEqDiff, Nat.reduceAdd, Nat.reduceMul, ↓reduceIte, reduceCtorEq, tab2]; rfl) (by simp) (fun hb => ?_) (fun hb => ?_)
      · refine hK4 _ ?_; clear hK4 K4
        simp only [decide_eq_true_eq] at hb
        have hk' : k < t.length := by omega
        have hby := tagged_byte htag hk'
        refine wps_seq_k fun K5 hK5 => ?_
        refine wps_block ?_
        refine wps_seq_k fun K1 hK1 => wps_regT tab2 tab2_ok ?_; simp only [go_sem, Nat.reduceLeDiff, Nat.reducePow, Nat.reduceSub, Nat.reduceLT, Nat.reduceEqDiff, Nat.reduceAdd, Nat.reduceMul, ↓reduceIte, reduceCtorEq, tab2, fi36_0, fi39_0, ti9, und9, hi, h1]; (first | (refine hK1 _ ?_; clear hK1 K1) | (refine ⟨?_, hK1 _ ?_⟩ <;> clear hK1 K1; first | (· (simp; done)) | (· (simp +contextual; done)) | (· (simp +contextual; omega)) | (· grind) | skip))
        refine wps_cond (by simp only [go_sem, Nat.reduceLeDiff, Nat.reducePow, Nat.reduceSub, Nat.reduceLT, Nat.reduceEqDiff, Nat.reduceAdd, Nat.reduceMul, ↓reduceIte, reduceCtorEq, tab2]; rfl) (by simp) (fun hb => ?_) (fun hb => ?_)
        · simp at hb hby
          omega
        · refine hK5 _ ?_; clear hK5 K5
          refine wps_regT tab2 tab2_ok ?_; simp only [go_sem, Nat.reduceLeDiff, Nat.reducePow, Nat.reduceSub, Nat.reduceLT, Nat.reduceEqDiff, Nat.reduceAdd, Nat.reduceMul, ↓reduceIte, reduceCtorEq, tab2, hi]
          refine ⟨hk', ?_, h1⟩
          rw [IntWalk.i64_in _ (by omega)]
      · refine hK3 _ ?_
        refine wps_seq_k fun K6 hK6 => ?_
        refine wps_seq_k fun K1 hK1 => wps_regT tab2 tab2_ok ?_; simp only [go_sem, Nat.reduceLeDiff, Nat.reducePow, Nat.reduceSub, Nat.reduceLT, Nat.reduceEqDiff, Nat.reduceAdd, Nat.reduceMul, ↓reduceIte, reduceCtorEq, tab2, fi39_1, fi39_2, fi39_3, ti2, h1]; (first | (refine hK1 _ ?_; clear hK1 K1) | (refine ⟨?_, hK1 _ ?_⟩ <;> clear hK1 K1; first | (· (simp; done)) | (· (simp +contextual; done)) | (· (simp +contextual; omega)) | (· grind) | skip))
        refine wps_cond (by simp only [go_sem, Nat.reduceLeDiff, Nat.reducePow, Nat.reduceSub, Nat.reduceLT, Nat.reduceEqDiff, Nat.reduceAdd, Nat.reduceMul, ↓reduceIte, reduceCtorEq, tab2]; rfl) (by simp) (fun hb => ?_) (fun hb => ?_)
        · refine wps_seq_k fun K1 hK1 => wps_regT tab2 tab2_ok ?_; simp only [go_sem, Nat.reduceLeDiff, Nat.reducePow, Nat.reduceSub, Nat.reduceLT, Nat.reduceEqDiff, Nat.reduceAdd, Nat.reduceMul, ↓reduceIte, reduceCtorEq, tab2]; (first | (refine hK1 _ ?_; clear hK1 K1) | (refine ⟨?_, hK1 _ ?_⟩ <;> clear hK1 K1; first | (· (simp; done)) | (· (simp +contextual; done)) | (· (simp +contextual; omega)) | (· grind) | skip))
          simp only [wps, endQ, resV, resVs, resV1, go_sem, Nat.reduceLeDiff, Nat.reducePow, Nat.reduceSub, Nat.reduceLT, Nat.reduceEqDiff, Nat.reduceAdd, Nat.reduceMul, ↓reduceIte, reduceCtorEq, tab2]
          simp only [true_and, and_true, V.bool.injEq]
          symm
          simp [metaQ, numQ] at hb ⊢
          omega
        · refine hK6 _ ?_; clear hK6 K6
          have hb1 := hb; clear hb
          refine wps_seq_k fun K7 hK7 => ?_
          refine wps_seq_k fun K1 hK1 => wps_regT tab2 tab2_ok ?_; simp only [go_sem, Nat.reduceLeDiff, Nat.reducePow, Nat.reduceSub, Nat.reduceLT, Nat.reduceEqDiff, Nat.reduceAdd, Nat.reduceMul, ↓reduceIte, reduceCtorEq, tab2, fi39_4, fi39_5, fi39_6, ti2, h1]; (first | (refine hK1 _ ?_; clear hK1 K1) | (refine ⟨?_, hK1 _ ?_⟩ <;> clear hK1 K1; first | (· (simp; done)) | (· (simp +contextual; done)) | (· (simp +contextual; omega)) | (· grind) | skip))
          refine wps_cond (by simp only [go_sem, Nat.reduceLeDiff, Nat.reducePow, Nat.reduceSub, Nat.reduceLT, Nat.reduceEqDiff, Nat.reduceAdd, Nat.reduceMul, ↓reduceIte, reduceCtorEq, tab2]; rfl) (by simp) (fun hb => ?_) (fun hb => ?_)
          · refine wps_seq_k fun K1 hK1 => wps_regT tab2 tab2_ok ?_; simp only [go_sem, Nat.reduceLeDiff, Nat.reducePow, Nat.reduceSub, Nat.reduceLT, Nat.reduceEqDiff, Nat.reduceAdd, Nat.reduceMul, ↓reduceIte, reduceCtorEq, tab2]; (first | (refine hK1 _ ?_; clear hK1 K1) | (refine ⟨?_, hK1 _ ?_⟩ <;> clear hK1 K1; first | (· (simp; done)) | (· (simp +contextual; done)) | (· (simp +contextual; omega)) | (· grind) | skip))
            simp only [wps, endQ, resV, resVs, resV1, go_sem, Nat.reduceLeDiff, Nat.reducePow, Nat.reduceSub, Nat.reduceLT, Nat.reduceEqDiff, Nat.reduceAdd, Nat.reduceMul, ↓reduceIte, reduceCtorEq, tab2]
            simp only [true_and, and_true, V.bool.injEq]
            symm
            simp [metaQ, numQ] at hb ⊢
            omega
          · refine hK7 _ ?_; clear hK7 K7
            refine wps_seq_k fun K1 hK1 => wps_regT tab2 tab2_ok ?_; simp only [go_sem, Nat.reduceLeDiff, Nat.reducePow, Nat.reduceSub, Nat.reduceLT, Nat.reduceEqDiff, Nat.reduceAdd, Nat.reduceMul, ↓reduceIte, reduceCtorEq, tab2, fi39_7, fi39_8, ti37, ti9, und37, und9, h1, unsl_sl, tab1, tab0]; (first | (refine hK1 _ ?_; clear hK1 K1) | (refine ⟨?_, hK1 _ ?_⟩ <;> clear hK1 K1; first | (· (simp; done)) | (· (simp +contextual; done)) | (· (simp +contextual; omega)) | (· grind) | skip))
            simp only [wps, endQ, resV, resVs, resV1, go_sem, Nat.reduceLeDiff, Nat.reducePow, Nat.reduceSub, Nat.reduceLT, Nat.reduceEqDiff, Nat.reduceAdd, Nat.reduceMul, ↓reduceIte, reduceCtorEq, tab2]
            clear hlen h1 hi hk
            simp at hb hb1
            (first | rw [V.bool.injEq] | simp only [V.bool.injEq, true_and, and_true] | skip); rw [Bool.eq_iff_iff]; simp [metaQ, numQ, htag]
            exact ⟨fun h => ⟨by omega, by omega, by omega, by omega, by omega, by omega, by omega, h⟩, fun h => h.2.2.2.2.2.2.2⟩
end Go.Eng.Tryz

/- Contracts: a version's meta data. -/
namespace Go.Eng.Tryz
open Go.Proofs
attribute [local go_sem] oss_nil_eq Int.toNat_natCast maxLen Nat.zero_le run step opv slotV opvs dstLt evalQ constV isA setD upd_app guardB List.getD_cons_zero List.getD_cons_succ List.getD_nil V.tag V.cells decide_true decide_false Bool.false_eq_true if_false if_true ne_eq Nat.one_ne_zero not_false_eq_true keyKind cellOk List.forall_mem_cons List.not_mem_nil false_implies true_and and_true implies_true forall_const bump addrAdd loadA loadV part opV binV eqlV eqOk pickV unV convV boundV fillV storeTo splice List.getElem?_cons_zero List.getElem?_cons_succ List.take_succ_cons List.take_zero List.drop_succ_cons List.drop_zero List.length_cons List.length_nil List.cons_append List.nil_append List.append_nil List.getElem_toArray List.getElem?_toArray List.size_toArray and_self eqV_tupl eqV_tupr fbt tbf beq_self_eq_true Bool.not_false Bool.not_true cond_true cond_false newVarW updH_self updH_updH isFuncFn runT stepT stepC isCallV callOf callV escL memN runW stepW stepCW runD stepD safeB slots ownS stepOwn reads runM stepM emptyH softEq V.soft softs readSl chunks partsV delKV slice0V stepE runE
set_option linter.unusedSimpArgs false
set_option linter.unusedVariables false

def tab3 : Tab := fun M id vs => match id, vs with
  | 127, [.agg [.str t, .bool w], .agg [.str u, .bool x]] => some (True, .bool (weakEq t u))
  | 137, [.agg [.str t, .bool w], .agg [.str u, .bool x]] => some (True, .bool (weakEq t u))
  | 122, [.agg [.str t, .bool w]] => some (True, .bool (taggedQ t w))
  | 124, [.str s] => some (True, .bool (tenantQ s))
  | 125, [.str s] => some (True, .bool (keyQ s))
  | 104, [.agg [.int .i64 a, .int .i64 b]] => some (True, .bool (spanQ a b))
  | 94, [.agg [.str t, .bool w, .int .i64 mod, .int .i64 len, .int .i64 have_, .int .i64 fresh, .int .i64 while_, .int .i64 err, .lst es, .str ten, .bool keep]] => match unsl es with
    | some ks => some (True, .bool (metaQ ⟨t, w, mod, len, have_, fresh, while_, err, ks, ten, keep⟩))
    | none => none
  | id, vs => tab2 M id vs

theorem tab3_ok : TabOk Tryz.prog tab3 := by
  intro M id vs g r h hg
  unfold tab3 at h
  split at h <;> (try simp only [Option.some.injEq, Prod.mk.injEq, reduceCtorEq] at h) <;> (try (obtain ⟨rfl, rfl⟩ := h))
  · exact s127 _ _ _ _ _
  · exact s137 _ _ _ _ _
  · exact s122 _ _ _
  · exact s124 _ _
  · exact s125 _ _
  · exact s104 _ _ _
  · split at h <;> (try simp only [Option.some.injEq, Prod.mk.injEq, reduceCtorEq] at h)
    obtain ⟨rfl, rfl⟩ := h
    rename_i hu
    rw [unsl_eq hu]
    exact s94 ⟨_, _, _, _, _, _, _, _, _, _, _⟩ _
  · exact tab2_ok _ _ _ _ _ h hg

def mc1 (m : MetaD) : Bool := !taggedQ m.t m.w || (decide (m.mod < -1) || decide (m.mod > 253402300799))
def mc2 (m : MetaD) : Bool := !numQ m.len (-1) || (!numQ m.have_ 0 || (decide (m.len ≥ 0) && (m.have_ != m.len)))
def mc3 (m : MetaD) : Bool := !numQ m.fresh 0 || (!numQ m.while_ 0 || !numQ m.err 0)
def mc4 (m : MetaD) : Bool := decide (m.keys.length > 32) || !tenantQ m.ten
theorem metaQ_flags (m : MetaD) : metaQ m = (!mc1 m && (!mc2 m && (!mc3 m && (!mc4 m && decide (∀ j, j < m.keys.length → keyAt m.keys j))))) := by
  rw [Bool.eq_iff_iff]
  simp [metaQ, mc1, mc2, mc3, mc4, numQ, keysQ]
  constructor
  · rintro ⟨h1, h2, h3, h4, h5, h6, h7, h8, h9, h10⟩
    exact ⟨⟨h1, by omega⟩, ⟨by omega, by omega, by omega⟩, ⟨by omega, by omega, by omega⟩, ⟨by omega, h10⟩, h9.2⟩
  · rintro ⟨⟨h1, h2⟩, ⟨h3, h4, h5⟩, ⟨h6, h7, h8⟩, ⟨h9, h10⟩, h11⟩
    exact ⟨h1, by omega, by omega, by omega, by omega, by omega, by omega, by omega, ⟨by omega, h11⟩, h10⟩

theorem s75 (m : MetaD) (M : Heap) : Pure Tryz.prog 75 [.agg [.str m.t, .bool m.w, .int .i64 m.mod, .int .i64 m.len, .int .i64 m.have_, .int .i64 m.fresh, .int .i64 m.while_, .int .i64 m.err, .lst (sl m.keys), .str m.ten, .bool m.keep]] M (.bool (metaQ m)) := by
  rw [metaQ_flags]
  obtain ⟨t, w, mod, len, have_, fresh, while_, err, keys, ten, keep⟩ := m
  refine Spec.forget (Spec.strip' (fun _ => false) ok75 (by simp) (fun hlen => ?_)) (by simp [refsOk])
  have hlen : keys.length ≤ 9223372036854775807 := by
    have := hlen.1.2.2.2.2.2.2.2.2.1.1
    simpa [maxLen, sl_len] using this
  unfold c75
  simp only [mc1, mc2, mc3, mc4]
  refine wps_seq_k fun K1 hK1 => wps_regT tab3 tab3_ok ?_; simp only [go_sem, Nat.reduceLeDiff, Nat.reducePow, Nat.reduceSub, Nat.reduceLT, Nat.reduceEqDiff, Nat.reduceAdd, Nat.reduceMul, ↓reduceIte, reduceCtorEq, tab3]; (first | (refine hK1 _ ?_; clear hK1 K1) | (refine ⟨?_, hK1 _ ?_⟩ <;> clear hK1 K1; first | (· (simp; done)) | (· (simp +contextual; done)) | (· (simp +contextual; omega)) | (· grind) | skip))
  refine wps_seq_k fun K2 hK2 => ?_
  refine wps_block ?_
  refine wps_seq_cut (fun st => st.M = M ∧ st.fr 1 = .box 0 [.str t, .bool w, .int .i64 mod, .int .i64 len, .int .i64 have_, .int .i64 fresh, .int .i64 while_, .int .i64 err, .lst (sl keys), .str ten, .bool keep] ∧ st.fr 25 = .bool (!taggedQ t w || (decide (mod < -1) || decide (mod > 253402300799)))) ?_ ?_
  · refine wps_seq_k fun K1 hK1 => wps_regT tab3 tab3_ok ?_; simp only [go_sem, Nat.reduceLeDiff, Nat.reducePow, Nat.reduceSub, Nat.reduceLT, Nat.reduceEqDiff, Nat.reduceAdd, Nat.reduceMul, ↓reduceIte, reduceCtorEq, tab3, fi39_0, ti36]; (first | (refine hK1 _ ?_; clear hK1 K1) | (refine ⟨?_, hK1 _ ?_⟩ <;> clear hK1 K1; first | (· (simp; done)) | (· (simp +contextual; done)) | (· (simp +contextual; omega)) | (· grind) | skip))
    refine wps_cond (by simp only [go_sem, Nat.reduceLeDiff, Nat.reducePow, Nat.reduceSub, Nat.reduceLT, Nat.reduceEqDiff, Nat.reduceAdd, Nat.reduceMul, ↓reduceIte, reduceCtorEq, tab3]; rfl) (by simp) (fun hb => ?_) (fun hb => ?_)
    · simp only [wps, go_sem, Nat.reduceLeDiff, Nat.reducePow, Nat.reduceSub, Nat.reduceLT, Nat.reduceEqDiff, Nat.reduceAdd, Nat.reduceMul, ↓reduceIte, reduceCtorEq, tab3]
      simp [hb]
    · refine wps_seq_k fun K1 hK1 => wps_regT tab3 tab3_ok ?_; simp only [go_sem, Nat.reduceLeDiff, Nat.reducePow, Nat.reduceSub, Nat.reduceLT, Nat.reduceEqDiff, Nat.reduceAdd, Nat.reduceMul, ↓reduceIte, reduceCtorEq, tab3, fi39_1, ti2]; (first | (refine hK1 _ ?_; clear hK1 K1) | (refine ⟨?_, hK1 _ ?_⟩ <;> clear hK1 K1; first | (· (simp; done)) | (· (simp +contextual; done)) | (· (simp +contextual; omega)) | (· grind) | skip))
      have hb1 := hb; clear hb
      refine wps_cond (by simp only [go_sem, Nat.reduceLeDiff, Nat.reducePow, Nat.reduceSub, Nat.reduceLT, Nat.reduceEqDiff, Nat.reduceAdd, Nat.reduceMul, ↓reduceIte, reduceCtorEq, tab3]; rfl) (by simp) (fun hb => ?_) (fun hb => ?_)
      · simp only [wps, go_sem, Nat.reduceLeDiff, Nat.reducePow, Nat.reduceSub, Nat.reduceLT, Nat.reduceEqDiff, Nat.reduceAdd, Nat.reduceMul, ↓reduceIte, reduceCtorEq, tab3]
        simp [hb, hb1]
      · refine wps_regT tab3 tab3_ok ?_; simp only [go_sem, Nat.reduceLeDiff, Nat.reducePow, Nat.reduceSub, Nat.reduceLT, Nat.reduceEqDiff, Nat.reduceAdd, Nat.reduceMul, ↓reduceIte, reduceCtorEq, tab3, fi39_1, ti2]
        simp [hb, hb1]
  rintro ⟨fr, M', gen⟩ ⟨hM, h1, hf⟩
  simp only at hM h1 hf; subst hM
  refine wps_cond (by simp only [go_sem, Nat.reduceLeDiff, Nat.reducePow, Nat.reduceSub, Nat.reduceLT, Nat.reduceEqDiff, Nat.reduceAdd, Nat.reduceMul, ↓reduceIte, reduceCtorEq, tab3, hf]; rfl) (by simp) (fun hb => ?_) (fun hb => ?_)
  · refine hK2 _ ?_
    refine wps_seq_k fun K1 hK1 => wps_regT tab3 tab3_ok ?_; simp only [go_sem, Nat.reduceLeDiff, Nat.reducePow, Nat.reduceSub, Nat.reduceLT, Nat.reduceEqDiff, Nat.reduceAdd, Nat.reduceMul, ↓reduceIte, reduceCtorEq, tab3]; (first | (refine hK1 _ ?_; clear hK1 K1) | (refine ⟨?_, hK1 _ ?_⟩ <;> clear hK1 K1; first | (· (simp; done)) | (· (simp +contextual; done)) | (· (simp +contextual; omega)) | (· grind) | skip))
    simp only [wps, endQ, resV, resVs, resV1, go_sem, Nat.reduceLeDiff, Nat.reducePow, Nat.reduceSub, Nat.reduceLT, Nat.reduceEqDiff, Nat.reduceAdd, Nat.reduceMul, ↓reduceIte, reduceCtorEq, tab3]
    rw [hb]; simp
  rw [hb]
  clear hb hf
  refine wps_seq_cut (fun st => st.M = M' ∧ st.fr 1 = .box 0 [.str t, .bool w, .int .i64 mod, .int .i64 len, .int .i64 have_, .int .i64 fresh, .int .i64 while_, .int .i64 err, .lst (sl keys), .str ten, .bool keep] ∧ st.fr 36 = .bool (!numQ len (-1) || (!numQ have_ 0 || (decide (len ≥ 0) && (have_ != len))))) ?_ ?_
  · refine wps_seq_k fun K1 hK1 => wps_regT tab3 tab3_ok ?_; simp only [go_sem, Nat.reduceLeDiff, Nat.reducePow, Nat.reduceSub, Nat.reduceLT, Nat.reduceEqDiff, Nat.reduceAdd, Nat.reduceMul, ↓reduceIte, reduceCtorEq, tab3, fi39_2, ti2, und2, h1, tab2, tab1]; (first | (refine hK1 _ ?_; clear hK1 K1) | (refine ⟨?_, hK1 _ ?_⟩ <;> clear hK1 K1; first | (· (simp; done)) | (· (simp +contextual; done)) | (· (simp +contextual; omega)) | (· grind) | skip))
    refine wps_cond (by simp only [go_sem, Nat.reduceLeDiff, Nat.reducePow, Nat.reduceSub, Nat.reduceLT, Nat.reduceEqDiff, Nat.reduceAdd, Nat.reduceMul, ↓reduceIte, reduceCtorEq, tab3]; rfl) (by simp) (fun hb => ?_) (fun hb => ?_)
    · simp only [wps, go_sem, Nat.reduceLeDiff, Nat.reducePow, Nat.reduceSub, Nat.reduceLT, Nat.reduceEqDiff, Nat.reduceAdd, Nat.reduceMul, ↓reduceIte, reduceCtorEq, tab3]
      simp [hb, h1]
    · refine wps_seq_k fun K1 hK1 => wps_regT tab3 tab3_ok ?_; simp only [go_sem, Nat.reduceLeDiff, Nat.reducePow, Nat.reduceSub, Nat.reduceLT, Nat.reduceEqDiff, Nat.reduceAdd, Nat.reduceMul, ↓reduceIte, reduceCtorEq, tab3, fi39_3, ti2, und2, h1, tab2, tab1]; (first | (refine hK1 _ ?_; clear hK1 K1) | (refine ⟨?_, hK1 _ ?_⟩ <;> clear hK1 K1; first | (· (simp; done)) | (· (simp +contextual; done)) | (· (simp +contextual; omega)) | (· grind) | skip))
      have hb1 := hb; clear hb
      refine wps_cond (by simp only [go_sem, Nat.reduceLeDiff, Nat.reducePow, Nat.reduceSub, Nat.reduceLT, Nat.reduceEqDiff, Nat.reduceAdd, Nat.reduceMul, ↓reduceIte, reduceCtorEq, tab3]; rfl) (by simp) (fun hb => ?_) (fun hb => ?_)
      · simp only [wps, go_sem, Nat.reduceLeDiff, Nat.reducePow, Nat.reduceSub, Nat.reduceLT, Nat.reduceEqDiff, Nat.reduceAdd, Nat.reduceMul, ↓reduceIte, reduceCtorEq, tab3]
        simp [hb, hb1, h1]
      · refine wps_regT tab3 tab3_ok ?_; simp only [go_sem, Nat.reduceLeDiff, Nat.reducePow, Nat.reduceSub, Nat.reduceLT, Nat.reduceEqDiff, Nat.reduceAdd, Nat.reduceMul, ↓reduceIte, reduceCtorEq, tab3, fi39_3, fi39_2, ti2, h1]
        simp [hb, hb1]
  clear h1 gen fr
  rintro ⟨fr, M', gen⟩ ⟨hM, h1, hf⟩
  simp only at hM h1 hf; subst hM
  refine wps_cond (by simp only [go_sem, Nat.reduceLeDiff, Nat.reducePow, Nat.reduceSub, Nat.reduceLT, Nat.reduceEqDiff, Nat.reduceAdd, Nat.reduceMul, ↓reduceIte, reduceCtorEq, tab3, hf]; rfl) (by simp) (fun hb => ?_) (fun hb => ?_)
  · refine hK2 _ ?_
    refine wps_seq_k fun K1 hK1 => wps_regT tab3 tab3_ok ?_; simp only [go_sem, Nat.reduceLeDiff, Nat.reducePow, Nat.reduceSub, Nat.reduceLT, Nat.reduceEqDiff, Nat.reduceAdd, Nat.reduceMul, ↓reduceIte, reduceCtorEq, tab3]; (first | (refine hK1 _ ?_; clear hK1 K1) | (refine ⟨?_, hK1 _ ?_⟩ <;> clear hK1 K1; first | (· (simp; done)) | (· (simp +contextual; done)) | (· (simp +contextual; omega)) | (· grind) | skip))
    simp only [wps, endQ, resV, resVs, resV1, go_sem, Nat.reduceLeDiff, Nat.reducePow, Nat.reduceSub, Nat.reduceLT, Nat.reduceEqDiff, Nat.reduceAdd, Nat.reduceMul, ↓reduceIte, reduceCtorEq, tab3]
    rw [hb]; simp
  rw [hb]
  clear hb hf
  refine wps_seq_cut (fun st => st.M = M' ∧ st.fr 1 = .box 0 [.str t, .bool w, .int .i64 mod, .int .i64 len, .int .i64 have_, .int .i64 fresh, .int .i64 while_, .int .i64 err, .lst (sl keys), .str ten, .bool keep] ∧ st.fr 55 = .bool (!numQ fresh 0 || (!numQ while_ 0 || !numQ err 0))) ?_ ?_
  · refine wps_seq_k fun K1 hK1 => wps_regT tab3 tab3_ok ?_; simp only [go_sem, Nat.reduceLeDiff, Nat.reducePow, Nat.reduceSub, Nat.reduceLT, Nat.reduceEqDiff, Nat.reduceAdd, Nat.reduceMul, ↓reduceIte, reduceCtorEq, tab3, fi39_4, ti2, und2, h1, tab2, tab1]; (first | (refine hK1 _ ?_; clear hK1 K1) | (refine ⟨?_, hK1 _ ?_⟩ <;> clear hK1 K1; first | (· (simp; done)) | (· (simp +contextual; done)) | (· (simp +contextual; omega)) | (· grind) | skip))
    refine wps_cond (by simp only [go_sem, Nat.reduceLeDiff, Nat.reducePow, Nat.reduceSub, Nat.reduceLT, Nat.reduceEqDiff, Nat.reduceAdd, Nat.reduceMul, ↓reduceIte, reduceCtorEq, tab3]; rfl) (by simp) (fun hb => ?_) (fun hb => ?_)
    · simp only [wps, go_sem, Nat.reduceLeDiff, Nat.reducePow, Nat.reduceSub, Nat.reduceLT, Nat.reduceEqDiff, Nat.reduceAdd, Nat.reduceMul, ↓reduceIte, reduceCtorEq, tab3]
      simp [hb, h1]
    · refine wps_seq_k fun K1 hK1 => wps_regT tab3 tab3_ok ?_; simp only [go_sem, Nat.reduceLeDiff, Nat.reducePow, Nat.reduceSub, Nat.reduceLT, Nat.reduceEqDiff, Nat.reduceAdd, Nat.reduceMul, ↓reduceIte, reduceCtorEq, tab3, fi39_5, ti2, und2, h1, tab2, tab1]; (first | (refine hK1 _ ?_; clear hK1 K1) | (refine ⟨?_, hK1 _ ?_⟩ <;> clear hK1 K1; first | (· (simp; done)) | (· (simp +contextual; done)) | (· (simp +contextual; omega)) | (· grind) | skip))
      have hb1 := hb; clear hb
      refine wps_cond (by simp only [go_sem, Nat.reduceLeDiff, Nat.reducePow, Nat.reduceSub, Nat.reduceLT, Nat.reduceEqDiff, Nat.reduceAdd, Nat.reduceMul, ↓reduceIte, reduceCtorEq, tab3]; rfl) (by simp) (fun hb => ?_) (fun hb => ?_)
      · simp only [wps, go_sem, Nat.reduceLeDiff, Nat.reducePow, Nat.reduceSub, Nat.reduceLT, Nat.reduceEqDiff, Nat.reduceAdd, Nat.reduceMul, ↓reduceIte, reduceCtorEq, tab3]
        simp [hb, hb1, h1]
      · refine wps_regT tab3 tab3_ok ?_; simp only [go_sem, Nat.reduceLeDiff, Nat.reducePow, Nat.reduceSub, Nat.reduceLT, Nat.reduceEqDiff, Nat.reduceAdd, Nat.reduceMul, ↓reduceIte, reduceCtorEq, tab3, fi39_6, ti2, h1, tab2, tab1]
        simp [hb, hb1]
  clear h1 gen fr
  rintro ⟨fr, M', gen⟩ ⟨hM, h1, hf⟩
  simp only at hM h1 hf; subst hM
  refine wps_cond (by simp only [go_sem, Nat.reduceLeDiff, Nat.reducePow, Nat.reduceSub, Nat.reduceLT, Nat.reduceEqDiff, Nat.reduceAdd, Nat.reduceMul, ↓reduceIte, reduceCtorEq, tab3, hf]; rfl) (by simp) (fun hb => ?_) (fun hb => ?_)
  · refine hK2 _ ?_
    refine wps_seq_k fun K1 hK1 => wps_regT tab3 tab3_ok ?_; simp only [go_sem, Nat.reduceLeDiff, Nat.reducePow, Nat.reduceSub, Nat.reduceLT, Nat.reduceEqDiff, Nat.reduceAdd, Nat.reduceMul, ↓reduceIte, reduceCtorEq, tab3]; (first | (refine hK1 _ ?_; clear hK1 K1) | (refine ⟨?_, hK1 _ ?_⟩ <;> clear hK1 K1; first | (· (simp; done)) | (· (simp +contextual; done)) | (· (simp +contextual; omega)) | (· grind) | skip))
    simp only [wps, endQ, resV, resVs, resV1, go_sem, Nat.reduceLeDiff, Nat.reducePow, Nat.reduceSub, Nat.reduceLT, Nat.reduceEqDiff, Nat.reduceAdd, Nat.reduceMul, ↓reduceIte, reduceCtorEq, tab3]
    rw [hb]; simp
  rw [hb]
  clear hb hf
  refine wps_seq_cut (fun st => st.M = M' ∧ st.fr 1 = .box 0 [.str t, .bool w, .int .i64 mod, .int .i64 len, .int .i64 have_, .int .i64 fresh, .int .i64 while_, .int .i64 err, .lst (sl keys), .str ten, .bool keep] ∧ st.fr 68 = .bool (decide (keys.length > 32) || !tenantQ ten)) ?_ ?_
  · refine wps_seq_k fun K1 hK1 => wps_regT tab3 tab3_ok ?_; simp only [go_sem, Nat.reduceLeDiff, Nat.reducePow, Nat.reduceSub, Nat.reduceLT, Nat.reduceEqDiff, Nat.reduceAdd, Nat.reduceMul, ↓reduceIte, reduceCtorEq, tab3, fi39_7, ti37, und37, h1, tab2, tab1, sl_len]; (first | (refine hK1 _ ?_; clear hK1 K1) | (refine ⟨?_, hK1 _ ?_⟩ <;> clear hK1 K1; first | (· (simp; done)) | (· (simp +contextual; done)) | (· (simp +contextual; omega)) | (· grind) | skip))
    refine wps_cond (by simp only [go_sem, Nat.reduceLeDiff, Nat.reducePow, Nat.reduceSub, Nat.reduceLT, Nat.reduceEqDiff, Nat.reduceAdd, Nat.reduceMul, ↓reduceIte, reduceCtorEq, tab3]; rfl) (by simp) (fun hb => ?_) (fun hb => ?_)
    · simp only [wps, go_sem, Nat.reduceLeDiff, Nat.reducePow, Nat.reduceSub, Nat.reduceLT, Nat.reduceEqDiff, Nat.reduceAdd, Nat.reduceMul, ↓reduceIte, reduceCtorEq, tab3]
      simp at hb
      simp [h1]
      rw [decide_eq_true (by omega : 32 < keys.length), decide_eq_true (by omega : 32 < (keys.length : Int))]
      rfl
    · refine wps_regT tab3 tab3_ok ?_; simp only [go_sem, Nat.reduceLeDiff, Nat.reducePow, Nat.reduceSub, Nat.reduceLT, Nat.reduceEqDiff, Nat.reduceAdd, Nat.reduceMul, ↓reduceIte, reduceCtorEq, tab3, fi39_8, ti9, und9, h1, tab2, tab1]
      simp at hb
      simp
      intro h; omega
  clear h1 gen fr
  rintro ⟨fr, M', gen⟩ ⟨hM, h1, hf⟩
  simp only at hM h1 hf; subst hM
  refine wps_cond (by simp only [go_sem, Nat.reduceLeDiff, Nat.reducePow, Nat.reduceSub, Nat.reduceLT, Nat.reduceEqDiff, Nat.reduceAdd, Nat.reduceMul, ↓reduceIte, reduceCtorEq, tab3, hf]; rfl) (by simp) (fun hb => ?_) (fun hb => ?_)
  · refine hK2 _ ?_
    refine wps_seq_k fun K1 hK1 => wps_regT tab3 tab3_ok ?_; simp only [go_sem, Nat.reduceLeDiff, Nat.reducePow, Nat.reduceSub, Nat.reduceLT, Nat.reduceEqDiff, Nat.reduceAdd, Nat.reduceMul, ↓reduceIte, reduceCtorEq, tab3]; (first | (refine hK1 _ ?_; clear hK1 K1) | (refine ⟨?_, hK1 _ ?_⟩ <;> clear hK1 K1; first | (· (simp; done)) | (· (simp +contextual; done)) | (· (simp +contextual; omega)) | (· grind) | skip))
    simp only [wps, endQ, resV, resVs, resV1, go_sem, Nat.reduceLeDiff, Nat.reducePow, Nat.reduceSub, Nat.reduceLT, Nat.reduceEqDiff, Nat.reduceAdd, Nat.reduceMul, ↓reduceIte, reduceCtorEq, tab3]
    rw [hb]; simp
  have hb4 := hb
  rw [hb]
  clear hb hf hK2
  simp only [Bool.not_false, Bool.true_and]
  refine wps_seq_k fun K1 hK1 => wps_regT tab3 tab3_ok ?_; simp only [go_sem, Nat.reduceLeDiff, Nat.reducePow, Nat.reduceSub, Nat.reduceLT, Nat.reduceEqDiff, Nat.reduceAdd, Nat.reduceMul, ↓reduceIte, reduceCtorEq, tab3, und186]; (first | (with_reducible refine oss_obl ?_ ?_; first | (· (simp; done)) | (· (simp +contextual; done)) | (· (simp +contextual; omega)) | (· grind) | skip) | skip)
  refine oss_op rfl rfl ?_; simp only [opw, SO.oper, go_sem, Nat.reduceLeDiff, Nat.reducePow, Nat.reduceSub, Nat.reduceLT, Nat.reduceEqDiff, Nat.reduceAdd, Nat.reduceMul, ↓reduceIte, reduceCtorEq, tab3, und186]
  intro ob hob
  refine oss_runT tab3 tab3_ok ?_; simp only [go_sem, Nat.reduceLeDiff, Nat.reducePow, Nat.reduceSub, Nat.reduceLT, Nat.reduceEqDiff, Nat.reduceAdd, Nat.reduceMul, ↓reduceIte, reduceCtorEq, tab3]; (first | (refine hK1 _ ?_; clear hK1 K1) | (refine ⟨?_, hK1 _ ?_⟩ <;> clear hK1 K1; first | (· (simp; done)) | (· (simp +contextual; done)) | (· (simp +contextual; omega)) | (· grind) | skip))
  refine wps_seq_k fun K7 hK7 => ?_
  refine wps_seq_k fun K1 hK1 => wps_regT tab3 tab3_ok ?_; simp only [go_sem, Nat.reduceLeDiff, Nat.reducePow, Nat.reduceSub, Nat.reduceLT, Nat.reduceEqDiff, Nat.reduceAdd, Nat.reduceMul, ↓reduceIte, reduceCtorEq, tab3, fi39_7, ti37, und37, h1, sl_len]; (first | (refine hK1 _ ?_; clear hK1 K1) | (refine ⟨?_, hK1 _ ?_⟩ <;> clear hK1 K1; first | (· (simp; done)) | (· (simp +contextual; done)) | (· (simp +contextual; omega)) | (· grind) | skip))
  refine wps_block (wps_count 10 keys.length (fun k st => (∀ j, j < k → keyAt keys j) ∧ (st.M ob = some (.map (setOf (keys.take k))) ∧ ∀ o x, M' o = some x → st.M o = some x) ∧ st.fr 3 = .map ob ∧ st.fr 8 = .lst (sl keys) ∧ st.fr 9 = .int .i64 keys.length) ?_ ?_)
  · refine ⟨0, by simp, by simp only [go_sem, Nat.reduceLeDiff, Nat.reducePow, Nat.reduceSub, Nat.reduceLT, Nat.reduceEqDiff, Nat.reduceAdd, Nat.reduceMul, ↓reduceIte, reduceCtorEq, tab3]; rfl, by simp, ⟨?_, ?_⟩, by simp only [go_sem, Nat.reduceLeDiff, Nat.reducePow, Nat.reduceSub, Nat.reduceLT, Nat.reduceEqDiff, Nat.reduceAdd, Nat.reduceMul, ↓reduceIte, reduceCtorEq, tab3], by simp only [go_sem, Nat.reduceLeDiff, Nat.reducePow, Nat.reduceSub, Nat.reduceLT, Nat.reduceEqDiff, Nat.reduceAdd, Nat.reduceMul, ↓reduceIte, reduceCtorEq, tab3], by simp only [go_sem, Nat.reduceLeDiff, Nat.reducePow, Nat.reduceSub, Nat.reduceLT, Nat.reduceEqDiff, Nat.reduceAdd, Nat.reduceMul, ↓reduceIte, reduceCtorEq, tab3]⟩
    · simp [updH, setOf]
    · intro o x hx
      simp only [updH]
      split
      · subst_vars; rw [hob] at hx; cases hx
      · exact hx
  · clear h1 fr gen
    rintro k fr M1 gen hk hi ⟨hall, ⟨hm, hM⟩, h3, h8, h9⟩
    simp only at hM h3 h8 h9 hi hm
    refine wps_seq_k fun K1 hK1 => wps_regT tab3 tab3_ok ?_; simp only [go_sem, Nat.reduceLeDiff, Nat.reducePow, Nat.reduceSub, Nat.reduceLT, Nat.reduceEqDiff, Nat.reduceAdd, Nat.reduceMul, ↓reduceIte, reduceCtorEq, tab3, hi, h9]; (first | (refine hK1 _ ?_; clear hK1 K1) | (refine ⟨?_, hK1 _ ?_⟩ <;> clear hK1 K1; first | (· (simp; done)) | (· (simp +contextual; done)) | (· (simp +contextual; omega)) | (· grind) | skip))
    refine wps_seq_k fun K8 hK8 => ?_
    refine wps_cond (by simp only [go_sem, Nat.reduceLeDiff, Nat.reducePow, Nat.reduceSub, Nat.reduceLT, Nat.reduceEqDiff, Nat.reduceAdd, Nat.reduceMul, ↓reduceIte, reduceCtorEq, tab3]; rfl) (by simp) (fun hb => ?_) (fun hb => ?_)
    · refine hK8 _ ?_; clear hK8 K8
      simp only [decide_eq_true_eq] at hb
      have hk' : k < keys.length := by omega
      have hg := sl_get hk'
      have hl := lookup_set (keys.getD k []) und186 und9 zero4 hm
      refine wps_seq_k fun K9 hK9 => ?_
      refine wps_block ?_
      refine wps_seq_k fun K1 hK1 => wps_regT tab3 tab3_ok ?_; simp only [go_sem, Nat.reduceLeDiff, Nat.reducePow, Nat.reduceSub, Nat.reduceLT, Nat.reduceEqDiff, Nat.reduceAdd, Nat.reduceMul, ↓reduceIte, reduceCtorEq, tab3, ti9, und37, hi, h8, sl_len, hg]; (first | (refine hK1 _ ?_; clear hK1 K1) | (refine ⟨?_, hK1 _ ?_⟩ <;> clear hK1 K1; first | (· (simp; done)) | (· (simp +contextual; done)) | (· (simp +contextual; omega)) | (· grind) | skip))
      refine wps_seq_k fun K10 hK10 => ?_
      refine wps_seq_k fun K1 hK1 => wps_regT tab3 tab3_ok ?_; simp only [go_sem, Nat.reduceLeDiff, Nat.reducePow, Nat.reduceSub, Nat.reduceLT, Nat.reduceEqDiff, Nat.reduceAdd, Nat.reduceMul, ↓reduceIte, reduceCtorEq, tab3, und186, und9, zero4, h3, hl, tab2, tab1]; (first | (refine hK1 _ ?_; clear hK1 K1) | (refine ⟨?_, hK1 _ ?_⟩ <;> clear hK1 K1; first | (· (simp; done)) | (· (simp +contextual; done)) | (· (simp +contextual; omega)) | (· grind) | skip))
      refine wps_cond (by simp only [go_sem, Nat.reduceLeDiff, Nat.reducePow, Nat.reduceSub, Nat.reduceLT, Nat.reduceEqDiff, Nat.reduceAdd, Nat.reduceMul, ↓reduceIte, reduceCtorEq, tab3]; rfl) (by simp) (fun hb => ?_) (fun hb => ?_)
      · refine wps_seq_k fun K1 hK1 => wps_regT tab3 tab3_ok ?_; simp only [go_sem, Nat.reduceLeDiff, Nat.reducePow, Nat.reduceSub, Nat.reduceLT, Nat.reduceEqDiff, Nat.reduceAdd, Nat.reduceMul, ↓reduceIte, reduceCtorEq, tab3]; (first | (refine hK1 _ ?_; clear hK1 K1) | (refine ⟨?_, hK1 _ ?_⟩ <;> clear hK1 K1; first | (· (simp; done)) | (· (simp +contextual; done)) | (· (simp +contextual; omega)) | (· grind) | skip))
        simp only [wps, endQ, resV, resVs, resV1, go_sem, Nat.reduceLeDiff, Nat.reducePow, Nat.reduceSub, Nat.reduceLT, Nat.reduceEqDiff, Nat.reduceAdd, Nat.reduceMul, ↓reduceIte, reduceCtorEq, tab3]
        refine ⟨?_, hM⟩
        simp only [V.bool.injEq]
        symm
        simp only [decide_eq_false_iff_not]
        intro h
        have := h k hk'
        rw [this.1] at hb
        simp only [Bool.not_true, cond_false, decide_eq_true_eq] at hb
        obtain ⟨m, hm1, hm2⟩ := (mem_take hk' _).1 hb
        exact this.2 m hm1 hm2
      · refine hK10 _ ?_; clear hK10 K10
        have hkey : keyAt keys k := by
          cases hq : keyQ (keys.getD k []) with
          | false => rw [hq] at hb; simp at hb
          | true =>
            rw [hq] at hb
            simp only [Bool.not_true, cond_false, decide_eq_false_iff_not] at hb
            exact ⟨hq, fun m hm1 hm2 => hb ((mem_take hk' _).2 ⟨m, hm1, hm2⟩)⟩
        have hnm : keys.getD k [] ∉ keys.take k := by
          rw [mem_take hk']
          rintro ⟨m, hm1, hm2⟩
          exact hkey.2 m hm1 hm2
        have hset := setKV_set _ _ hnm
        refine wps_regT tab3 tab3_ok ?_; simp only [go_sem, Nat.reduceLeDiff, Nat.reducePow, Nat.reduceSub, Nat.reduceLT, Nat.reduceEqDiff, Nat.reduceAdd, Nat.reduceMul, ↓reduceIte, reduceCtorEq, tab3, und186, und9, zero4, h3]; (first | (with_reducible refine oss_obl ?_ ?_; first | (· (simp; done)) | (· (simp +contextual; done)) | (· (simp +contextual; omega)) | (· grind) | skip) | skip)
        refine oss_op rfl rfl ?_; simp only [opw, SO.oper, go_sem, Nat.reduceLeDiff, Nat.reducePow, Nat.reduceSub, Nat.reduceLT, Nat.reduceEqDiff, Nat.reduceAdd, Nat.reduceMul, ↓reduceIte, reduceCtorEq, tab3, und186, und9, zero4, hm, hset]
        refine hK9 _ ?_; clear hK9 K9
        have htk : keys.take (k + 1) = keys.take k ++ [keys.getD k []] := by
          rw [List.take_succ_eq_append_getElem hk', List.getD_eq_getElem?_getD, List.getElem?_eq_getElem hk']
          rfl
        refine wps_regT tab3 tab3_ok ?_; simp only [go_sem, Nat.reduceLeDiff, Nat.reducePow, Nat.reduceSub, Nat.reduceLT, Nat.reduceEqDiff, Nat.reduceAdd, Nat.reduceMul, ↓reduceIte, reduceCtorEq, tab3, hi]
        refine ⟨hk', ?_, ?_, ⟨?_, ?_⟩, h3, h8, h9⟩
        · rw [IntWalk.i64_in _ (by omega)]
        · intro j hj
          by_cases hjk : j = k
          · subst hjk; exact hkey
          · exact hall j (by omega)
        · simp [htk, updH]
        · intro o x hx
          try simp only [updH]
          split
          · rename_i e; rw [e, hob] at hx; cases hx
          · exact hM o x hx
    · refine hK7 _ ?_
      refine wps_seq_k fun K1 hK1 => wps_regT tab3 tab3_ok ?_; simp only [go_sem, Nat.reduceLeDiff, Nat.reducePow, Nat.reduceSub, Nat.reduceLT, Nat.reduceEqDiff, Nat.reduceAdd, Nat.reduceMul, ↓reduceIte, reduceCtorEq, tab3]; (first | (refine hK1 _ ?_; clear hK1 K1) | (refine ⟨?_, hK1 _ ?_⟩ <;> clear hK1 K1; first | (· (simp; done)) | (· (simp +contextual; done)) | (· (simp +contextual; omega)) | (· grind) | skip))
      simp only [wps, endQ, resV, resVs, resV1, go_sem, Nat.reduceLeDiff, Nat.reducePow, Nat.reduceSub, Nat.reduceLT, Nat.reduceEqDiff, Nat.reduceAdd, Nat.reduceMul, ↓reduceIte, reduceCtorEq, tab3]
      have : k = keys.length := by simp at hb; omega
      subst this
      exact ⟨by rw [decide_eq_true hall], hM⟩
end Go.Eng.Tryz
