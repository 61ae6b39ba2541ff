/- The example holds; the laws without loops. -/
import Derived.Test.YtndjoblgphalhaaT13
namespace Go.Eng.Try
open Go.Proofs
attribute [local go_sem] oss_nil_eq Int.toNat_natCast maxLen Nat.zero_le run step opv slotV opvs dstLt evalQ constV isA setD upd_app guardB List.getD_cons_zero List.getD_cons_succ List.getD_nil V.tag V.cells decide_true decide_false Bool.false_eq_true if_false if_true ne_eq Nat.one_ne_zero not_false_eq_true keyKind cellOk List.forall_mem_cons List.not_mem_nil false_implies true_and and_true implies_true forall_const bump addrAdd loadA loadV part opV binV eqlV eqOk pickV unV convV boundV fillV storeTo splice List.getElem?_cons_zero List.getElem?_cons_succ List.take_succ_cons List.take_zero List.drop_succ_cons List.drop_zero List.length_cons List.length_nil List.cons_append List.nil_append List.append_nil List.getElem_toArray List.getElem?_toArray List.size_toArray and_self eqV_tupl eqV_tupr fbt tbf beq_self_eq_true Bool.not_false Bool.not_true cond_true cond_false newVarW updH_self updH_updH isFuncFn runT stepT stepC isCallV callOf callV escL memN runW stepW stepCW runD stepD safeB slots ownS stepOwn reads runM stepM emptyH
set_option linter.unusedSimpArgs false
set_option linter.unusedVariables false

def fw : FetchD := ⟨[47, 111], 8, 16, [], false, [], false⟩
def rw : ReplyD := ⟨206, ⟨[118], false, -1, 12, 12, 0, 0, 0, [], [], false⟩, 8, 12, 0⟩
theorem hread : readQ ⟨[47, 111], 8, 16, [], false, [], false⟩ ⟨206, ⟨[118], false, -1, 12, 12, 0, 0, 0, [], [], false⟩, 8, 12, 0⟩ = 1 := by decide +kernel
theorem hreply : replyF ⟨⟨[47, 111], 8, 16, [], false, [], false⟩, 0, 0, 0⟩ ⟨206, ⟨[118], false, -1, 12, 12, 0, 0, 0, [], [], false⟩, 8, 12, 0⟩ = (⟨⟨[47, 111], 8, 16, [], false, [], false⟩, 1, 8, 12⟩, 1, 0) := by
  simp [replyF, hread]
theorem hdata : dataF ⟨⟨[47, 111], 8, 16, [], false, [], false⟩, 1, 8, 12⟩ 3 = (⟨⟨[47, 111], 8, 16, [], false, [], false⟩, 1, 11, 12⟩, (8, 11), 0) := by rfl
theorem hrest : restF ⟨⟨[47, 111], 8, 16, [], false, [], false⟩, 1, 11, 12⟩ = ((11, 12), true) := by rfl
theorem hclose : closeF ⟨⟨[47, 111], 8, 16, [], false, [], false⟩, 1, 11, 12⟩ true = (⟨⟨[47, 111], 8, 16, [], false, [], false⟩, 2, 11, 12⟩, 13) := by rfl

def t27 : List V → Option (Prop × V)
  | [.int .i64 12] => some (True, .agg [.str [118], .bool false, .int .i64 (-1), .int .i64 12, .int .i64 12, .int .i64 0, .int .i64 0, .int .i64 0, .lst [], .str [], .bool false])
  | _ => none
def t11 : List V → Option (Prop × V)
  | [.agg r] => match deReply r with
    | some r => some (True, .bool (smallR r))
    | none => none
  | _ => none
def tab9 : Tab := fun M id vs => match id with
  | 27 => t27 vs
  | 11 => t11 vs
  | id => tab8 M id vs

theorem tab9_ok : TabOk Try.prog tab9 := by
  intro M id vs g r h hg
  unfold tab9 at h
  split at h
  · unfold t27 at h
    split at h <;> (try (cases h; done))
    cases h
    exact s27 _
  · unfold t11 at h
    split at h <;> (try (cases h; done))
    split at h <;> (try (cases h; done))
    rename_i hr; rw [deReply_eq hr]; cases h
    exact s11 _ _
  · exact tab8_ok _ _ _ _ _ h hg

theorem keep_upd {M : Heap} {o : Nat} {h : HObj} (ho : M o = none) : ∀ k x, M k = some x → updH M o h k = some x := by
  intro k x hk
  simp only [updH]
  split
  · rename_i e; subst e; rw [ho] at hk; cases hk
  · exact hk

set_option maxRecDepth 100000 in
set_option maxHeartbeats 2000000 in
theorem s9 (M : Heap) : Pure Try.prog 9 [] M (.bool true) := by
  refine Spec.forget (Spec.strip (fun _ => false) ok9 (by simp) ?_)
  unfold c9
  refine wps_seq_k fun K1 hK1 => wps_regW tab9 wtab8 tab9_ok wtab8_ok ?_; simp only [go_sem, Nat.reduceLeDiff, Nat.reducePow, Nat.reduceSub, Nat.reduceLT, Nat.reduceEqDiff, Nat.reduceAdd, Nat.reduceMul, ↓reduceIte, reduceCtorEq, tab9, tab8, tab7, tab6, tab5, tab4, tab3, tab2, tab1, tab0, unsl_sl, unsl_nil, t11, t27, t17, t18, t19, t20, t21, t22, t23, t24, t25, deFS_c, deReply_c, deReply_n, deFetch_c, deObj_c, wtab8, w18, w20, w22]; (first | (refine hK1 _ ?_; clear hK1 K1) | (refine ⟨?_, hK1 _ ?_⟩ <;> clear hK1 K1; first | (· (simp; done)) | (· (simp +contextual; done)) | (· (simp +contextual; omega)) | (· grind) | skip))
  refine wps_seq_k fun K1 hK1 => wps_regW tab9 wtab8 tab9_ok wtab8_ok ?_; simp only [go_sem, Nat.reduceLeDiff, Nat.reducePow, Nat.reduceSub, Nat.reduceLT, Nat.reduceEqDiff, Nat.reduceAdd, Nat.reduceMul, ↓reduceIte, reduceCtorEq, tab9, tab8, tab7, tab6, tab5, tab4, tab3, tab2, tab1, tab0, unsl_sl, unsl_nil, t11, t27, t17, t18, t19, t20, t21, t22, t23, t24, t25, deFS_c, deReply_c, deReply_n, deFetch_c, deObj_c, wtab8, w18, w20, w22, bs23, bs27, fi23_0, fi23_1, fi27_0, fi27_1, ti27, zero23, zero27]; (first | (refine hK1 _ ?_; clear hK1 K1) | (refine ⟨?_, hK1 _ ?_⟩ <;> clear hK1 K1; first | (· (simp; done)) | (· (simp +contextual; done)) | (· (simp +contextual; omega)) | (· grind) | skip))
  refine wps_seq_k fun K1 hK1 => wps_regW tab9 wtab8 tab9_ok wtab8_ok ?_; simp only [go_sem, Nat.reduceLeDiff, Nat.reducePow, Nat.reduceSub, Nat.reduceLT, Nat.reduceEqDiff, Nat.reduceAdd, Nat.reduceMul, ↓reduceIte, reduceCtorEq, tab9, tab8, tab7, tab6, tab5, tab4, tab3, tab2, tab1, tab0, unsl_sl, unsl_nil, t11, t27, t17, t18, t19, t20, t21, t22, t23, t24, t25, deFS_c, deReply_c, deReply_n, deFetch_c, deObj_c, wtab8, w18, w20, w22, ti27]; (first | (refine oss_obl ?_ ?_; first | (· (simp; done)) | (· (simp +contextual; done)) | (· (simp +contextual; omega)) | (· grind) | skip) | skip)
  refine oss_call rfl (by simp only [go_sem, Nat.reduceLeDiff, Nat.reducePow, Nat.reduceSub, Nat.reduceLT, Nat.reduceEqDiff, Nat.reduceAdd, Nat.reduceMul, ↓reduceIte, reduceCtorEq, tab9, tab8, tab7, tab6, tab5, tab4, tab3, tab2, tab1, tab0, unsl_sl, unsl_nil, t11, t27, t17, t18, t19, t20, t21, t22, t23, t24, t25, deFS_c, deReply_c, deReply_n, deFetch_c, deObj_c, wtab8, w18, w20, w22]; rfl) (by simp) (s16 ⟨[47, 111], 8, 16, [], false, [], false⟩ _) ?_
  rintro _ _ (⟨hq, o, ho, rfl, rfl⟩ | ⟨hq, rfl, rfl⟩)
  case inr => exact absurd hq (by decide +kernel)
  refine oss_runW tab9 wtab8 tab9_ok wtab8_ok ?_; simp only [go_sem, Nat.reduceLeDiff, Nat.reducePow, Nat.reduceSub, Nat.reduceLT, Nat.reduceEqDiff, Nat.reduceAdd, Nat.reduceMul, ↓reduceIte, reduceCtorEq, tab9, tab8, tab7, tab6, tab5, tab4, tab3, tab2, tab1, tab0, unsl_sl, unsl_nil, t11, t27, t17, t18, t19, t20, t21, t22, t23, t24, t25, deFS_c, deReply_c, deReply_n, deFetch_c, deObj_c, wtab8, w18, w20, w22]; (first | (refine hK1 _ ?_; clear hK1 K1) | (refine ⟨?_, hK1 _ ?_⟩ <;> clear hK1 K1; first | (· (simp; done)) | (· (simp +contextual; done)) | (· (simp +contextual; omega)) | (· grind) | skip))
  refine wps_seq_k fun K2 hK2 => ?_
  refine wps_seq_k fun K1 hK1 => wps_regW tab9 wtab8 tab9_ok wtab8_ok ?_; simp only [go_sem, Nat.reduceLeDiff, Nat.reducePow, Nat.reduceSub, Nat.reduceLT, Nat.reduceEqDiff, Nat.reduceAdd, Nat.reduceMul, ↓reduceIte, reduceCtorEq, tab9, tab8, tab7, tab6, tab5, tab4, tab3, tab2, tab1, tab0, unsl_sl, unsl_nil, t11, t27, t17, t18, t19, t20, t21, t22, t23, t24, t25, deFS_c, deReply_c, deReply_n, deFetch_c, deObj_c, wtab8, w18, w20, w22, eq41a, eq41b, eq41c, und41]; (first | (refine hK1 _ ?_; clear hK1 K1) | (refine ⟨?_, hK1 _ ?_⟩ <;> clear hK1 K1; first | (· (simp; done)) | (· (simp +contextual; done)) | (· (simp +contextual; omega)) | (· grind) | skip))
  refine wps_cond (by simp only [go_sem, Nat.reduceLeDiff, Nat.reducePow, Nat.reduceSub, Nat.reduceLT, Nat.reduceEqDiff, Nat.reduceAdd, Nat.reduceMul, ↓reduceIte, reduceCtorEq, tab9, tab8, tab7, tab6, tab5, tab4, tab3, tab2, tab1, tab0, unsl_sl, unsl_nil, t11, t27, t17, t18, t19, t20, t21, t22, t23, t24, t25, deFS_c, deReply_c, deReply_n, deFetch_c, deObj_c, wtab8, w18, w20, w22]; rfl) (by simp) (fun hb => ?_) (fun hb => ?_)
  · exact absurd hb (by decide)
  · refine hK2 _ ?_; clear hK2 K2
    refine wps_seq_k fun K1 hK1 => wps_regW tab9 wtab8 tab9_ok wtab8_ok ?_; simp only [go_sem, Nat.reduceLeDiff, Nat.reducePow, Nat.reduceSub, Nat.reduceLT, Nat.reduceEqDiff, Nat.reduceAdd, Nat.reduceMul, ↓reduceIte, reduceCtorEq, tab9, tab8, tab7, tab6, tab5, tab4, tab3, tab2, tab1, tab0, unsl_sl, unsl_nil, t11, t27, t17, t18, t19, t20, t21, t22, t23, t24, t25, deFS_c, deReply_c, deReply_n, deFetch_c, deObj_c, wtab8, w18, w20, w22, bs23, bs32, fi23_0, fi23_1, fi32_0, fi32_1, fi32_2, und2, und41, zero23, zero32, hreply]; (first | (refine hK1 _ ?_; clear hK1 K1) | (refine ⟨?_, hK1 _ ?_⟩ <;> clear hK1 K1; first | (· (simp; done)) | (· (simp +contextual; done)) | (· (simp +contextual; omega)) | (· grind) | skip))
    refine wps_seq_k fun K1 hK1 => wps_regW tab9 wtab8 tab9_ok wtab8_ok ?_; simp only [go_sem, Nat.reduceLeDiff, Nat.reducePow, Nat.reduceSub, Nat.reduceLT, Nat.reduceEqDiff, Nat.reduceAdd, Nat.reduceMul, ↓reduceIte, reduceCtorEq, tab9, tab8, tab7, tab6, tab5, tab4, tab3, tab2, tab1, tab0, unsl_sl, unsl_nil, t11, t27, t17, t18, t19, t20, t21, t22, t23, t24, t25, deFS_c, deReply_c, deReply_n, deFetch_c, deObj_c, wtab8, w18, w20, w22, und2, und41, ti23, zero23, hreply, hdata]; (first | (refine hK1 _ ?_; clear hK1 K1) | (refine ⟨?_, hK1 _ ?_⟩ <;> clear hK1 K1; first | (· (simp; done)) | (· (simp +contextual; done)) | (· (simp +contextual; omega)) | (· grind) | skip))
    refine wps_seq_k fun K1 hK1 => wps_regW tab9 wtab8 tab9_ok wtab8_ok ?_; simp only [go_sem, Nat.reduceLeDiff, Nat.reducePow, Nat.reduceSub, Nat.reduceLT, Nat.reduceEqDiff, Nat.reduceAdd, Nat.reduceMul, ↓reduceIte, reduceCtorEq, tab9, tab8, tab7, tab6, tab5, tab4, tab3, tab2, tab1, tab0, unsl_sl, unsl_nil, t11, t27, t17, t18, t19, t20, t21, t22, t23, t24, t25, deFS_c, deReply_c, deReply_n, deFetch_c, deObj_c, wtab8, w18, w20, w22, und41, ti23, zero23, hrest]; (first | (refine hK1 _ ?_; clear hK1 K1) | (refine ⟨?_, hK1 _ ?_⟩ <;> clear hK1 K1; first | (· (simp; done)) | (· (simp +contextual; done)) | (· (simp +contextual; omega)) | (· grind) | skip))
    refine wps_seq_k fun K1 hK1 => wps_regW tab9 wtab8 tab9_ok wtab8_ok ?_; simp only [go_sem, Nat.reduceLeDiff, Nat.reducePow, Nat.reduceSub, Nat.reduceLT, Nat.reduceEqDiff, Nat.reduceAdd, Nat.reduceMul, ↓reduceIte, reduceCtorEq, tab9, tab8, tab7, tab6, tab5, tab4, tab3, tab2, tab1, tab0, unsl_sl, unsl_nil, t11, t27, t17, t18, t19, t20, t21, t22, t23, t24, t25, deFS_c, deReply_c, deReply_n, deFetch_c, deObj_c, wtab8, w18, w20, w22, bs23, eg23, eq23, fi23_0, fi23_1, ti23, und4, und41, zero23, hclose, Bool.true_and, Bool.and_self, Bool.and_true]; (first | (refine hK1 _ ?_; clear hK1 K1) | (refine ⟨?_, hK1 _ ?_⟩ <;> clear hK1 K1; first | (· (simp; done)) | (· (simp +contextual; done)) | (· (simp +contextual; omega)) | (· grind) | skip))
    simp only [wps, endQ, resV, resVs, resV1, go_sem, Nat.reduceLeDiff, Nat.reducePow, Nat.reduceSub, Nat.reduceLT, Nat.reduceEqDiff, Nat.reduceAdd, Nat.reduceMul, ↓reduceIte, reduceCtorEq, tab9, tab8, tab7, tab6, tab5, tab4, tab3, tab2, tab1, tab0, unsl_sl, unsl_nil, t11, t27, t17, t18, t19, t20, t21, t22, t23, t24, t25, deFS_c, deReply_c, deReply_n, deFetch_c, deObj_c, wtab8, w18, w20, w22]
    exact keep_upd ho

def t9 : List V → Option (Prop × V)
  | [] => some (True, .bool true)
  | _ => none
def tab10 : Tab := fun M id vs => match id with
  | 9 => t9 vs
  | id => tab9 M id vs

theorem tab10_ok : TabOk Try.prog tab10 := by
  intro M id vs g r h hg
  unfold tab10 at h
  split at h
  · unfold t9 at h
    split at h <;> cases h
    exact s9 _
  · exact tab9_ok _ _ _ _ _ h hg

end Go.Eng.Try
