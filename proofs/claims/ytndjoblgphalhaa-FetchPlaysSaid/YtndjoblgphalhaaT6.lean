/- Contracts: a version's meta data. -/
import Derived.Test.YtndjoblgphalhaaT5
namespace Go.Eng.Try
open Go.Proofs
attribute [local go_sem] oss_nil_eq Int.toNat_natCast maxLen Nat.zero_le run step opv slotV opvs dstLt evalQ constV isA setD upd_app guardB List.getD_cons_zero List.getD_cons_succ List.getD_nil V.tag V.cells decide_true decide_false Bool.false_eq_true if_false if_true ne_eq Nat.one_ne_zero not_false_eq_true keyKind cellOk List.forall_mem_cons List.not_mem_nil false_implies true_and and_true implies_true forall_const bump addrAdd loadA loadV part opV binV eqlV eqOk pickV unV convV boundV fillV storeTo splice List.getElem?_cons_zero List.getElem?_cons_succ List.take_succ_cons List.take_zero List.drop_succ_cons List.drop_zero List.length_cons List.length_nil List.cons_append List.nil_append List.append_nil List.getElem_toArray List.getElem?_toArray List.size_toArray and_self eqV_tupl eqV_tupr fbt tbf beq_self_eq_true Bool.not_false Bool.not_true cond_true cond_false newVarW updH_self updH_updH isFuncFn runT stepT stepC isCallV callOf callV escL memN runW stepW stepCW runD stepD safeB slots ownS stepOwn reads runM stepM emptyH
set_option linter.unusedSimpArgs false
set_option linter.unusedVariables false

def tab3 : Tab := fun M id vs => match id, vs with
  | 30, [.agg [.str t, .bool w]] => some (True, .bool (strongQ t w))
  | 33, [.agg [.str t, .bool w]] => some (True, .bool (strongQ t w))
  | 49, [.agg [.str t, .bool w], .agg [.str u, .bool x]] => some (True, .bool (weakEq t u))
  | 50, [.agg [.str t, .bool w], .agg [.str u, .bool x]] => some (True, .bool (weakEq t u))
  | 45, [.agg [.str t, .bool w]] => some (True, .bool (taggedQ t w))
  | 47, [.str s] => some (True, .bool (tenantQ s))
  | 48, [.str s] => some (True, .bool (keyQ s))
  | 32, [.agg [.int .i64 a, .int .i64 b]] => some (True, .bool (spanQ a b))
  | 40, [.agg [.str t, .bool w, .int .i64 mod, .int .i64 len, .int .i64 have_, .int .i64 fresh, .int .i64 while_, .int .i64 err, .lst es, .str ten, .bool keep]] => match unsl es with
    | some ks => some (True, .bool (metaQ ⟨t, w, mod, len, have_, fresh, while_, err, ks, ten, keep⟩))
    | none => none
  | id, vs => tab2 M id vs

theorem tab3_ok : TabOk Try.prog tab3 := by
  intro M id vs g r h hg
  unfold tab3 at h
  split at h <;> (try simp only [Option.some.injEq, Prod.mk.injEq, reduceCtorEq] at h) <;> (try (obtain ⟨rfl, rfl⟩ := h))
  · exact s30 _ _ _
  · exact s33 _ _ _
  · exact s49 _ _ _ _ _
  · exact s50 _ _ _ _ _
  · exact s45 _ _ _
  · exact s47 _ _
  · exact s48 _ _
  · exact s32 _ _ _
  · split at h <;> (try simp only [Option.some.injEq, Prod.mk.injEq, reduceCtorEq] at h)
    obtain ⟨rfl, rfl⟩ := h
    rename_i hu
    rw [unsl_eq hu]
    exact s40 ⟨_, _, _, _, _, _, _, _, _, _, _⟩ _
  · exact tab2_ok _ _ _ _ _ h hg

def mc1 (m : MetaD) : Bool := !taggedQ m.t m.w || (decide (m.mod < -1) || decide (m.mod > 253402300799))
def mc2 (m : MetaD) : Bool := !numQ m.len (-1) || (!numQ m.have_ 0 || (decide (m.len ≥ 0) && (m.have_ != m.len)))
def mc3 (m : MetaD) : Bool := !numQ m.fresh 0 || (!numQ m.while_ 0 || !numQ m.err 0)
def mc4 (m : MetaD) : Bool := decide (m.keys.length > 32) || !tenantQ m.ten
theorem metaQ_flags (m : MetaD) : metaQ m = (!mc1 m && (!mc2 m && (!mc3 m && (!mc4 m && decide (∀ j, j < m.keys.length → keyAt m.keys j))))) := by
  rw [Bool.eq_iff_iff]
  simp [metaQ, mc1, mc2, mc3, mc4, numQ, keysQ]
  constructor
  · rintro ⟨h1, h2, h3, h4, h5, h6, h7, h8, h9, h10⟩
    exact ⟨⟨h1, by omega⟩, ⟨by omega, by omega, by omega⟩, ⟨by omega, by omega, by omega⟩, ⟨by omega, h10⟩, h9.2⟩
  · rintro ⟨⟨h1, h2⟩, ⟨h3, h4, h5⟩, ⟨h6, h7, h8⟩, ⟨h9, h10⟩, h11⟩
    exact ⟨h1, by omega, by omega, by omega, by omega, by omega, by omega, by omega, ⟨by omega, h11⟩, h10⟩

theorem s35 (m : MetaD) (M : Heap) : Pure Try.prog 35 [.agg [.str m.t, .bool m.w, .int .i64 m.mod, .int .i64 m.len, .int .i64 m.have_, .int .i64 m.fresh, .int .i64 m.while_, .int .i64 m.err, .lst (sl m.keys), .str m.ten, .bool m.keep]] M (.bool (metaQ m)) := by
  rw [metaQ_flags]
  obtain ⟨t, w, mod, len, have_, fresh, while_, err, keys, ten, keep⟩ := m
  refine Spec.forget (Spec.strip' (fun _ => false) ok35 (by simp) (fun hlen => ?_))
  have hlen : keys.length ≤ 9223372036854775807 := by
    have := hlen.1.2.2.2.2.2.2.2.2.1.1
    simpa [maxLen, sl_len] using this
  unfold c35
  simp only [mc1, mc2, mc3, mc4]
  refine wps_seq_k fun K1 hK1 => wps_regT tab3 tab3_ok ?_; simp only [go_sem, Nat.reduceLeDiff, Nat.reducePow, Nat.reduceSub, Nat.reduceLT, Nat.reduceEqDiff, Nat.reduceAdd, Nat.reduceMul, ↓reduceIte, reduceCtorEq, tab3]; (first | (refine hK1 _ ?_; clear hK1 K1) | (refine ⟨?_, hK1 _ ?_⟩ <;> clear hK1 K1; first | (· (simp; done)) | (· (simp +contextual; done)) | (· (simp +contextual; omega)) | (· grind) | skip))
  refine wps_seq_k fun K2 hK2 => ?_
  refine wps_block ?_
  refine wps_seq_cut (fun st => st.M = M ∧ st.fr 1 = .box 0 [.str t, .bool w, .int .i64 mod, .int .i64 len, .int .i64 have_, .int .i64 fresh, .int .i64 while_, .int .i64 err, .lst (sl keys), .str ten, .bool keep] ∧ st.fr 25 = .bool (!taggedQ t w || (decide (mod < -1) || decide (mod > 253402300799)))) ?_ ?_
  · refine wps_seq_k fun K1 hK1 => wps_regT tab3 tab3_ok ?_; simp only [go_sem, Nat.reduceLeDiff, Nat.reducePow, Nat.reduceSub, Nat.reduceLT, Nat.reduceEqDiff, Nat.reduceAdd, Nat.reduceMul, ↓reduceIte, reduceCtorEq, tab3, fi30_0, ti25]; (first | (refine hK1 _ ?_; clear hK1 K1) | (refine ⟨?_, hK1 _ ?_⟩ <;> clear hK1 K1; first | (· (simp; done)) | (· (simp +contextual; done)) | (· (simp +contextual; omega)) | (· grind) | skip))
    refine wps_cond (by simp only [go_sem, Nat.reduceLeDiff, Nat.reducePow, Nat.reduceSub, Nat.reduceLT, Nat.reduceEqDiff, Nat.reduceAdd, Nat.reduceMul, ↓reduceIte, reduceCtorEq, tab3]; rfl) (by simp) (fun hb => ?_) (fun hb => ?_)
    · simp only [wps, go_sem, Nat.reduceLeDiff, Nat.reducePow, Nat.reduceSub, Nat.reduceLT, Nat.reduceEqDiff, Nat.reduceAdd, Nat.reduceMul, ↓reduceIte, reduceCtorEq, tab3]
      simp [hb]
    · refine wps_seq_k fun K1 hK1 => wps_regT tab3 tab3_ok ?_; simp only [go_sem, Nat.reduceLeDiff, Nat.reducePow, Nat.reduceSub, Nat.reduceLT, Nat.reduceEqDiff, Nat.reduceAdd, Nat.reduceMul, ↓reduceIte, reduceCtorEq, tab3, fi30_1, ti2]; (first | (refine hK1 _ ?_; clear hK1 K1) | (refine ⟨?_, hK1 _ ?_⟩ <;> clear hK1 K1; first | (· (simp; done)) | (· (simp +contextual; done)) | (· (simp +contextual; omega)) | (· grind) | skip))
      have hb1 := hb; clear hb
      refine wps_cond (by simp only [go_sem, Nat.reduceLeDiff, Nat.reducePow, Nat.reduceSub, Nat.reduceLT, Nat.reduceEqDiff, Nat.reduceAdd, Nat.reduceMul, ↓reduceIte, reduceCtorEq, tab3]; rfl) (by simp) (fun hb => ?_) (fun hb => ?_)
      · simp only [wps, go_sem, Nat.reduceLeDiff, Nat.reducePow, Nat.reduceSub, Nat.reduceLT, Nat.reduceEqDiff, Nat.reduceAdd, Nat.reduceMul, ↓reduceIte, reduceCtorEq, tab3]
        simp [hb, hb1]
      · refine wps_regT tab3 tab3_ok ?_; simp only [go_sem, Nat.reduceLeDiff, Nat.reducePow, Nat.reduceSub, Nat.reduceLT, Nat.reduceEqDiff, Nat.reduceAdd, Nat.reduceMul, ↓reduceIte, reduceCtorEq, tab3, fi30_1, ti2]
        simp [hb, hb1]
  rintro ⟨fr, M', gen⟩ ⟨hM, h1, hf⟩
  simp only at hM h1 hf; subst hM
  refine wps_cond (by simp only [go_sem, Nat.reduceLeDiff, Nat.reducePow, Nat.reduceSub, Nat.reduceLT, Nat.reduceEqDiff, Nat.reduceAdd, Nat.reduceMul, ↓reduceIte, reduceCtorEq, tab3, hf]; rfl) (by simp) (fun hb => ?_) (fun hb => ?_)
  · refine hK2 _ ?_
    refine wps_seq_k fun K1 hK1 => wps_regT tab3 tab3_ok ?_; simp only [go_sem, Nat.reduceLeDiff, Nat.reducePow, Nat.reduceSub, Nat.reduceLT, Nat.reduceEqDiff, Nat.reduceAdd, Nat.reduceMul, ↓reduceIte, reduceCtorEq, tab3]; (first | (refine hK1 _ ?_; clear hK1 K1) | (refine ⟨?_, hK1 _ ?_⟩ <;> clear hK1 K1; first | (· (simp; done)) | (· (simp +contextual; done)) | (· (simp +contextual; omega)) | (· grind) | skip))
    simp only [wps, endQ, resV, resVs, resV1, go_sem, Nat.reduceLeDiff, Nat.reducePow, Nat.reduceSub, Nat.reduceLT, Nat.reduceEqDiff, Nat.reduceAdd, Nat.reduceMul, ↓reduceIte, reduceCtorEq, tab3]
    rw [hb]; simp
  rw [hb]
  clear hb hf
  refine wps_seq_cut (fun st => st.M = M' ∧ st.fr 1 = .box 0 [.str t, .bool w, .int .i64 mod, .int .i64 len, .int .i64 have_, .int .i64 fresh, .int .i64 while_, .int .i64 err, .lst (sl keys), .str ten, .bool keep] ∧ st.fr 36 = .bool (!numQ len (-1) || (!numQ have_ 0 || (decide (len ≥ 0) && (have_ != len))))) ?_ ?_
  · refine wps_seq_k fun K1 hK1 => wps_regT tab3 tab3_ok ?_; simp only [go_sem, Nat.reduceLeDiff, Nat.reducePow, Nat.reduceSub, Nat.reduceLT, Nat.reduceEqDiff, Nat.reduceAdd, Nat.reduceMul, ↓reduceIte, reduceCtorEq, tab3, fi30_2, ti2, und2, h1, tab2, tab1]; (first | (refine hK1 _ ?_; clear hK1 K1) | (refine ⟨?_, hK1 _ ?_⟩ <;> clear hK1 K1; first | (· (simp; done)) | (· (simp +contextual; done)) | (· (simp +contextual; omega)) | (· grind) | skip))
    refine wps_cond (by simp only [go_sem, Nat.reduceLeDiff, Nat.reducePow, Nat.reduceSub, Nat.reduceLT, Nat.reduceEqDiff, Nat.reduceAdd, Nat.reduceMul, ↓reduceIte, reduceCtorEq, tab3]; rfl) (by simp) (fun hb => ?_) (fun hb => ?_)
    · simp only [wps, go_sem, Nat.reduceLeDiff, Nat.reducePow, Nat.reduceSub, Nat.reduceLT, Nat.reduceEqDiff, Nat.reduceAdd, Nat.reduceMul, ↓reduceIte, reduceCtorEq, tab3]
      simp [hb, h1]
    · refine wps_seq_k fun K1 hK1 => wps_regT tab3 tab3_ok ?_; simp only [go_sem, Nat.reduceLeDiff, Nat.reducePow, Nat.reduceSub, Nat.reduceLT, Nat.reduceEqDiff, Nat.reduceAdd, Nat.reduceMul, ↓reduceIte, reduceCtorEq, tab3, fi30_3, ti2, und2, h1, tab2, tab1]; (first | (refine hK1 _ ?_; clear hK1 K1) | (refine ⟨?_, hK1 _ ?_⟩ <;> clear hK1 K1; first | (· (simp; done)) | (· (simp +contextual; done)) | (· (simp +contextual; omega)) | (· grind) | skip))
      have hb1 := hb; clear hb
      refine wps_cond (by simp only [go_sem, Nat.reduceLeDiff, Nat.reducePow, Nat.reduceSub, Nat.reduceLT, Nat.reduceEqDiff, Nat.reduceAdd, Nat.reduceMul, ↓reduceIte, reduceCtorEq, tab3]; rfl) (by simp) (fun hb => ?_) (fun hb => ?_)
      · simp only [wps, go_sem, Nat.reduceLeDiff, Nat.reducePow, Nat.reduceSub, Nat.reduceLT, Nat.reduceEqDiff, Nat.reduceAdd, Nat.reduceMul, ↓reduceIte, reduceCtorEq, tab3]
        simp [hb, hb1, h1]
      · refine wps_regT tab3 tab3_ok ?_; simp only [go_sem, Nat.reduceLeDiff, Nat.reducePow, Nat.reduceSub, Nat.reduceLT, Nat.reduceEqDiff, Nat.reduceAdd, Nat.reduceMul, ↓reduceIte, reduceCtorEq, tab3, fi30_3, fi30_2, ti2, h1]
        simp [hb, hb1]
  clear h1 gen fr
  rintro ⟨fr, M', gen⟩ ⟨hM, h1, hf⟩
  simp only at hM h1 hf; subst hM
  refine wps_cond (by simp only [go_sem, Nat.reduceLeDiff, Nat.reducePow, Nat.reduceSub, Nat.reduceLT, Nat.reduceEqDiff, Nat.reduceAdd, Nat.reduceMul, ↓reduceIte, reduceCtorEq, tab3, hf]; rfl) (by simp) (fun hb => ?_) (fun hb => ?_)
  · refine hK2 _ ?_
    refine wps_seq_k fun K1 hK1 => wps_regT tab3 tab3_ok ?_; simp only [go_sem, Nat.reduceLeDiff, Nat.reducePow, Nat.reduceSub, Nat.reduceLT, Nat.reduceEqDiff, Nat.reduceAdd, Nat.reduceMul, ↓reduceIte, reduceCtorEq, tab3]; (first | (refine hK1 _ ?_; clear hK1 K1) | (refine ⟨?_, hK1 _ ?_⟩ <;> clear hK1 K1; first | (· (simp; done)) | (· (simp +contextual; done)) | (· (simp +contextual; omega)) | (· grind) | skip))
    simp only [wps, endQ, resV, resVs, resV1, go_sem, Nat.reduceLeDiff, Nat.reducePow, Nat.reduceSub, Nat.reduceLT, Nat.reduceEqDiff, Nat.reduceAdd, Nat.reduceMul, ↓reduceIte, reduceCtorEq, tab3]
    rw [hb]; simp
  rw [hb]
  clear hb hf
  refine wps_seq_cut (fun st => st.M = M' ∧ st.fr 1 = .box 0 [.str t, .bool w, .int .i64 mod, .int .i64 len, .int .i64 have_, .int .i64 fresh, .int .i64 while_, .int .i64 err, .lst (sl keys), .str ten, .bool keep] ∧ st.fr 55 = .bool (!numQ fresh 0 || (!numQ while_ 0 || !numQ err 0))) ?_ ?_
  · refine wps_seq_k fun K1 hK1 => wps_regT tab3 tab3_ok ?_; simp only [go_sem, Nat.reduceLeDiff, Nat.reducePow, Nat.reduceSub, Nat.reduceLT, Nat.reduceEqDiff, Nat.reduceAdd, Nat.reduceMul, ↓reduceIte, reduceCtorEq, tab3, fi30_4, ti2, und2, h1, tab2, tab1]; (first | (refine hK1 _ ?_; clear hK1 K1) | (refine ⟨?_, hK1 _ ?_⟩ <;> clear hK1 K1; first | (· (simp; done)) | (· (simp +contextual; done)) | (· (simp +contextual; omega)) | (· grind) | skip))
    refine wps_cond (by simp only [go_sem, Nat.reduceLeDiff, Nat.reducePow, Nat.reduceSub, Nat.reduceLT, Nat.reduceEqDiff, Nat.reduceAdd, Nat.reduceMul, ↓reduceIte, reduceCtorEq, tab3]; rfl) (by simp) (fun hb => ?_) (fun hb => ?_)
    · simp only [wps, go_sem, Nat.reduceLeDiff, Nat.reducePow, Nat.reduceSub, Nat.reduceLT, Nat.reduceEqDiff, Nat.reduceAdd, Nat.reduceMul, ↓reduceIte, reduceCtorEq, tab3]
      simp [hb, h1]
    · refine wps_seq_k fun K1 hK1 => wps_regT tab3 tab3_ok ?_; simp only [go_sem, Nat.reduceLeDiff, Nat.reducePow, Nat.reduceSub, Nat.reduceLT, Nat.reduceEqDiff, Nat.reduceAdd, Nat.reduceMul, ↓reduceIte, reduceCtorEq, tab3, fi30_5, ti2, und2, h1, tab2, tab1]; (first | (refine hK1 _ ?_; clear hK1 K1) | (refine ⟨?_, hK1 _ ?_⟩ <;> clear hK1 K1; first | (· (simp; done)) | (· (simp +contextual; done)) | (· (simp +contextual; omega)) | (· grind) | skip))
      have hb1 := hb; clear hb
      refine wps_cond (by simp only [go_sem, Nat.reduceLeDiff, Nat.reducePow, Nat.reduceSub, Nat.reduceLT, Nat.reduceEqDiff, Nat.reduceAdd, Nat.reduceMul, ↓reduceIte, reduceCtorEq, tab3]; rfl) (by simp) (fun hb => ?_) (fun hb => ?_)
      · simp only [wps, go_sem, Nat.reduceLeDiff, Nat.reducePow, Nat.reduceSub, Nat.reduceLT, Nat.reduceEqDiff, Nat.reduceAdd, Nat.reduceMul, ↓reduceIte, reduceCtorEq, tab3]
        simp [hb, hb1, h1]
      · refine wps_regT tab3 tab3_ok ?_; simp only [go_sem, Nat.reduceLeDiff, Nat.reducePow, Nat.reduceSub, Nat.reduceLT, Nat.reduceEqDiff, Nat.reduceAdd, Nat.reduceMul, ↓reduceIte, reduceCtorEq, tab3, fi30_6, ti2, h1, tab2, tab1]
        simp [hb, hb1]
  clear h1 gen fr
  rintro ⟨fr, M', gen⟩ ⟨hM, h1, hf⟩
  simp only at hM h1 hf; subst hM
  refine wps_cond (by simp only [go_sem, Nat.reduceLeDiff, Nat.reducePow, Nat.reduceSub, Nat.reduceLT, Nat.reduceEqDiff, Nat.reduceAdd, Nat.reduceMul, ↓reduceIte, reduceCtorEq, tab3, hf]; rfl) (by simp) (fun hb => ?_) (fun hb => ?_)
  · refine hK2 _ ?_
    refine wps_seq_k fun K1 hK1 => wps_regT tab3 tab3_ok ?_; simp only [go_sem, Nat.reduceLeDiff, Nat.reducePow, Nat.reduceSub, Nat.reduceLT, Nat.reduceEqDiff, Nat.reduceAdd, Nat.reduceMul, ↓reduceIte, reduceCtorEq, tab3]; (first | (refine hK1 _ ?_; clear hK1 K1) | (refine ⟨?_, hK1 _ ?_⟩ <;> clear hK1 K1; first | (· (simp; done)) | (· (simp +contextual; done)) | (· (simp +contextual; omega)) | (· grind) | skip))
    simp only [wps, endQ, resV, resVs, resV1, go_sem, Nat.reduceLeDiff, Nat.reducePow, Nat.reduceSub, Nat.reduceLT, Nat.reduceEqDiff, Nat.reduceAdd, Nat.reduceMul, ↓reduceIte, reduceCtorEq, tab3]
    rw [hb]; simp
  rw [hb]
  clear hb hf
  refine wps_seq_cut (fun st => st.M = M' ∧ st.fr 1 = .box 0 [.str t, .bool w, .int .i64 mod, .int .i64 len, .int .i64 have_, .int .i64 fresh, .int .i64 while_, .int .i64 err, .lst (sl keys), .str ten, .bool keep] ∧ st.fr 68 = .bool (decide (keys.length > 32) || !tenantQ ten)) ?_ ?_
  · refine wps_seq_k fun K1 hK1 => wps_regT tab3 tab3_ok ?_; simp only [go_sem, Nat.reduceLeDiff, Nat.reducePow, Nat.reduceSub, Nat.reduceLT, Nat.reduceEqDiff, Nat.reduceAdd, Nat.reduceMul, ↓reduceIte, reduceCtorEq, tab3, fi30_7, ti28, und28, h1, tab2, tab1, sl_len]; (first | (refine hK1 _ ?_; clear hK1 K1) | (refine ⟨?_, hK1 _ ?_⟩ <;> clear hK1 K1; first | (· (simp; done)) | (· (simp +contextual; done)) | (· (simp +contextual; omega)) | (· grind) | skip))
    refine wps_cond (by simp only [go_sem, Nat.reduceLeDiff, Nat.reducePow, Nat.reduceSub, Nat.reduceLT, Nat.reduceEqDiff, Nat.reduceAdd, Nat.reduceMul, ↓reduceIte, reduceCtorEq, tab3]; rfl) (by simp) (fun hb => ?_) (fun hb => ?_)
    · simp only [wps, go_sem, Nat.reduceLeDiff, Nat.reducePow, Nat.reduceSub, Nat.reduceLT, Nat.reduceEqDiff, Nat.reduceAdd, Nat.reduceMul, ↓reduceIte, reduceCtorEq, tab3]
      simp at hb
      simp [h1]
      rw [decide_eq_true (by omega : 32 < keys.length), decide_eq_true (by omega : 32 < (keys.length : Int))]
      rfl
    · refine wps_regT tab3 tab3_ok ?_; simp only [go_sem, Nat.reduceLeDiff, Nat.reducePow, Nat.reduceSub, Nat.reduceLT, Nat.reduceEqDiff, Nat.reduceAdd, Nat.reduceMul, ↓reduceIte, reduceCtorEq, tab3, fi30_8, ti9, und9, h1, tab2, tab1]
      simp at hb
      simp
      intro h; omega
  clear h1 gen fr
  rintro ⟨fr, M', gen⟩ ⟨hM, h1, hf⟩
  simp only at hM h1 hf; subst hM
  refine wps_cond (by simp only [go_sem, Nat.reduceLeDiff, Nat.reducePow, Nat.reduceSub, Nat.reduceLT, Nat.reduceEqDiff, Nat.reduceAdd, Nat.reduceMul, ↓reduceIte, reduceCtorEq, tab3, hf]; rfl) (by simp) (fun hb => ?_) (fun hb => ?_)
  · refine hK2 _ ?_
    refine wps_seq_k fun K1 hK1 => wps_regT tab3 tab3_ok ?_; simp only [go_sem, Nat.reduceLeDiff, Nat.reducePow, Nat.reduceSub, Nat.reduceLT, Nat.reduceEqDiff, Nat.reduceAdd, Nat.reduceMul, ↓reduceIte, reduceCtorEq, tab3]; (first | (refine hK1 _ ?_; clear hK1 K1) | (refine ⟨?_, hK1 _ ?_⟩ <;> clear hK1 K1; first | (· (simp; done)) | (· (simp +contextual; done)) | (· (simp +contextual; omega)) | (· grind) | skip))
    simp only [wps, endQ, resV, resVs, resV1, go_sem, Nat.reduceLeDiff, Nat.reducePow, Nat.reduceSub, Nat.reduceLT, Nat.reduceEqDiff, Nat.reduceAdd, Nat.reduceMul, ↓reduceIte, reduceCtorEq, tab3]
    rw [hb]; simp
  have hb4 := hb
  rw [hb]
  clear hb hf hK2
  simp only [Bool.not_false, Bool.true_and]
  refine wps_seq_k fun K1 hK1 => wps_regT tab3 tab3_ok ?_; simp only [go_sem, Nat.reduceLeDiff, Nat.reducePow, Nat.reduceSub, Nat.reduceLT, Nat.reduceEqDiff, Nat.reduceAdd, Nat.reduceMul, ↓reduceIte, reduceCtorEq, tab3, und78]; (first | (refine oss_obl ?_ ?_; first | (· (simp; done)) | (· (simp +contextual; done)) | (· (simp +contextual; omega)) | (· grind) | skip) | skip)
  refine oss_op rfl rfl ?_; simp only [opw, SO.oper, go_sem, Nat.reduceLeDiff, Nat.reducePow, Nat.reduceSub, Nat.reduceLT, Nat.reduceEqDiff, Nat.reduceAdd, Nat.reduceMul, ↓reduceIte, reduceCtorEq, tab3, und78]
  intro ob hob
  refine oss_runT tab3 tab3_ok ?_; simp only [go_sem, Nat.reduceLeDiff, Nat.reducePow, Nat.reduceSub, Nat.reduceLT, Nat.reduceEqDiff, Nat.reduceAdd, Nat.reduceMul, ↓reduceIte, reduceCtorEq, tab3]; (first | (refine hK1 _ ?_; clear hK1 K1) | (refine ⟨?_, hK1 _ ?_⟩ <;> clear hK1 K1; first | (· (simp; done)) | (· (simp +contextual; done)) | (· (simp +contextual; omega)) | (· grind) | skip))
  refine wps_seq_k fun K7 hK7 => ?_
  refine wps_seq_k fun K1 hK1 => wps_regT tab3 tab3_ok ?_; simp only [go_sem, Nat.reduceLeDiff, Nat.reducePow, Nat.reduceSub, Nat.reduceLT, Nat.reduceEqDiff, Nat.reduceAdd, Nat.reduceMul, ↓reduceIte, reduceCtorEq, tab3, fi30_7, ti28, und28, h1, sl_len]; (first | (refine hK1 _ ?_; clear hK1 K1) | (refine ⟨?_, hK1 _ ?_⟩ <;> clear hK1 K1; first | (· (simp; done)) | (· (simp +contextual; done)) | (· (simp +contextual; omega)) | (· grind) | skip))
  refine wps_block (wps_count 10 keys.length (fun k st => (∀ j, j < k → keyAt keys j) ∧ (st.M ob = some (.map (setOf (keys.take k))) ∧ ∀ o x, M' o = some x → st.M o = some x) ∧ st.fr 3 = .map ob ∧ st.fr 8 = .lst (sl keys) ∧ st.fr 9 = .int .i64 keys.length) ?_ ?_)
  · refine ⟨0, by simp, by simp only [go_sem, Nat.reduceLeDiff, Nat.reducePow, Nat.reduceSub, Nat.reduceLT, Nat.reduceEqDiff, Nat.reduceAdd, Nat.reduceMul, ↓reduceIte, reduceCtorEq, tab3]; rfl, by simp, ⟨?_, ?_⟩, by simp only [go_sem, Nat.reduceLeDiff, Nat.reducePow, Nat.reduceSub, Nat.reduceLT, Nat.reduceEqDiff, Nat.reduceAdd, Nat.reduceMul, ↓reduceIte, reduceCtorEq, tab3], by simp only [go_sem, Nat.reduceLeDiff, Nat.reducePow, Nat.reduceSub, Nat.reduceLT, Nat.reduceEqDiff, Nat.reduceAdd, Nat.reduceMul, ↓reduceIte, reduceCtorEq, tab3], by simp only [go_sem, Nat.reduceLeDiff, Nat.reducePow, Nat.reduceSub, Nat.reduceLT, Nat.reduceEqDiff, Nat.reduceAdd, Nat.reduceMul, ↓reduceIte, reduceCtorEq, tab3]⟩
    · simp [updH, setOf]
    · intro o x hx
      simp only [updH]
      split
      · subst_vars; rw [hob] at hx; cases hx
      · exact hx
  · clear h1 fr gen
    rintro k fr M1 gen hk hi ⟨hall, ⟨hm, hM⟩, h3, h8, h9⟩
    simp only at hM h3 h8 h9 hi hm
    refine wps_seq_k fun K1 hK1 => wps_regT tab3 tab3_ok ?_; simp only [go_sem, Nat.reduceLeDiff, Nat.reducePow, Nat.reduceSub, Nat.reduceLT, Nat.reduceEqDiff, Nat.reduceAdd, Nat.reduceMul, ↓reduceIte, reduceCtorEq, tab3, hi, h9]; (first | (refine hK1 _ ?_; clear hK1 K1) | (refine ⟨?_, hK1 _ ?_⟩ <;> clear hK1 K1; first | (· (simp; done)) | (· (simp +contextual; done)) | (· (simp +contextual; omega)) | (· grind) | skip))
    refine wps_seq_k fun K8 hK8 => ?_
    refine wps_cond (by simp only [go_sem, Nat.reduceLeDiff, Nat.reducePow, Nat.reduceSub, Nat.reduceLT, Nat.reduceEqDiff, Nat.reduceAdd, Nat.reduceMul, ↓reduceIte, reduceCtorEq, tab3]; rfl) (by simp) (fun hb => ?_) (fun hb => ?_)
    · refine hK8 _ ?_; clear hK8 K8
      simp only [decide_eq_true_eq] at hb
      have hk' : k < keys.length := by omega
      have hg := sl_get hk'
      have hl := lookup_set (keys.getD k []) und78 und9 zero4 hm
      refine wps_seq_k fun K9 hK9 => ?_
      refine wps_block ?_
      refine wps_seq_k fun K1 hK1 => wps_regT tab3 tab3_ok ?_; simp only [go_sem, Nat.reduceLeDiff, Nat.reducePow, Nat.reduceSub, Nat.reduceLT, Nat.reduceEqDiff, Nat.reduceAdd, Nat.reduceMul, ↓reduceIte, reduceCtorEq, tab3, ti9, und28, hi, h8, sl_len, hg]; (first | (refine hK1 _ ?_; clear hK1 K1) | (refine ⟨?_, hK1 _ ?_⟩ <;> clear hK1 K1; first | (· (simp; done)) | (· (simp +contextual; done)) | (· (simp +contextual; omega)) | (· grind) | skip))
      refine wps_seq_k fun K10 hK10 => ?_
      refine wps_seq_k fun K1 hK1 => wps_regT tab3 tab3_ok ?_; simp only [go_sem, Nat.reduceLeDiff, Nat.reducePow, Nat.reduceSub, Nat.reduceLT, Nat.reduceEqDiff, Nat.reduceAdd, Nat.reduceMul, ↓reduceIte, reduceCtorEq, tab3, und78, und9, zero4, h3, hl, tab2, tab1]; (first | (refine hK1 _ ?_; clear hK1 K1) | (refine ⟨?_, hK1 _ ?_⟩ <;> clear hK1 K1; first | (· (simp; done)) | (· (simp +contextual; done)) | (· (simp +contextual; omega)) | (· grind) | skip))
      refine wps_cond (by simp only [go_sem, Nat.reduceLeDiff, Nat.reducePow, Nat.reduceSub, Nat.reduceLT, Nat.reduceEqDiff, Nat.reduceAdd, Nat.reduceMul, ↓reduceIte, reduceCtorEq, tab3]; rfl) (by simp) (fun hb => ?_) (fun hb => ?_)
      · refine wps_seq_k fun K1 hK1 => wps_regT tab3 tab3_ok ?_; simp only [go_sem, Nat.reduceLeDiff, Nat.reducePow, Nat.reduceSub, Nat.reduceLT, Nat.reduceEqDiff, Nat.reduceAdd, Nat.reduceMul, ↓reduceIte, reduceCtorEq, tab3]; (first | (refine hK1 _ ?_; clear hK1 K1) | (refine ⟨?_, hK1 _ ?_⟩ <;> clear hK1 K1; first | (· (simp; done)) | (· (simp +contextual; done)) | (· (simp +contextual; omega)) | (· grind) | skip))
        simp only [wps, endQ, resV, resVs, resV1, go_sem, Nat.reduceLeDiff, Nat.reducePow, Nat.reduceSub, Nat.reduceLT, Nat.reduceEqDiff, Nat.reduceAdd, Nat.reduceMul, ↓reduceIte, reduceCtorEq, tab3]
        refine ⟨?_, hM⟩
        simp only [V.bool.injEq]
        symm
        simp only [decide_eq_false_iff_not]
        intro h
        have := h k hk'
        rw [this.1] at hb
        simp only [Bool.not_true, cond_false, decide_eq_true_eq] at hb
        obtain ⟨m, hm1, hm2⟩ := (mem_take hk' _).1 hb
        exact this.2 m hm1 hm2
      · refine hK10 _ ?_; clear hK10 K10
        have hkey : keyAt keys k := by
          cases hq : keyQ (keys.getD k []) with
          | false => rw [hq] at hb; simp at hb
          | true =>
            rw [hq] at hb
            simp only [Bool.not_true, cond_false, decide_eq_false_iff_not] at hb
            exact ⟨hq, fun m hm1 hm2 => hb ((mem_take hk' _).2 ⟨m, hm1, hm2⟩)⟩
        have hnm : keys.getD k [] ∉ keys.take k := by
          rw [mem_take hk']
          rintro ⟨m, hm1, hm2⟩
          exact hkey.2 m hm1 hm2
        have hset := setKV_set _ _ hnm
        refine wps_regT tab3 tab3_ok ?_; simp only [go_sem, Nat.reduceLeDiff, Nat.reducePow, Nat.reduceSub, Nat.reduceLT, Nat.reduceEqDiff, Nat.reduceAdd, Nat.reduceMul, ↓reduceIte, reduceCtorEq, tab3, und78, und9, zero4, h3]; (first | (refine oss_obl ?_ ?_; first | (· (simp; done)) | (· (simp +contextual; done)) | (· (simp +contextual; omega)) | (· grind) | skip) | skip)
        refine oss_op rfl rfl ?_; simp only [opw, SO.oper, go_sem, Nat.reduceLeDiff, Nat.reducePow, Nat.reduceSub, Nat.reduceLT, Nat.reduceEqDiff, Nat.reduceAdd, Nat.reduceMul, ↓reduceIte, reduceCtorEq, tab3, und78, und9, zero4, hm, hset]
        refine hK9 _ ?_; clear hK9 K9
        have htk : keys.take (k + 1) = keys.take k ++ [keys.getD k []] := by
          rw [List.take_succ_eq_append_getElem hk', List.getD_eq_getElem?_getD, List.getElem?_eq_getElem hk']
          rfl
        refine wps_regT tab3 tab3_ok ?_; simp only [go_sem, Nat.reduceLeDiff, Nat.reducePow, Nat.reduceSub, Nat.reduceLT, Nat.reduceEqDiff, Nat.reduceAdd, Nat.reduceMul, ↓reduceIte, reduceCtorEq, tab3, hi]
        refine ⟨hk', ?_, ?_, ⟨?_, ?_⟩, h3, h8, h9⟩
        · rw [IntWalk.i64_in _ (by omega)]
        · intro j hj
          by_cases hjk : j = k
          · subst hjk; exact hkey
          · exact hall j (by omega)
        · simp [htk, updH]
        · intro o x hx
          try simp only [updH]
          split
          · subst_vars; rw [hob] at hx; cases hx
          · exact hM o x hx
    · refine hK7 _ ?_
      refine wps_seq_k fun K1 hK1 => wps_regT tab3 tab3_ok ?_; simp only [go_sem, Nat.reduceLeDiff, Nat.reducePow, Nat.reduceSub, Nat.reduceLT, Nat.reduceEqDiff, Nat.reduceAdd, Nat.reduceMul, ↓reduceIte, reduceCtorEq, tab3]; (first | (refine hK1 _ ?_; clear hK1 K1) | (refine ⟨?_, hK1 _ ?_⟩ <;> clear hK1 K1; first | (· (simp; done)) | (· (simp +contextual; done)) | (· (simp +contextual; omega)) | (· grind) | skip))
      simp only [wps, endQ, resV, resVs, resV1, go_sem, Nat.reduceLeDiff, Nat.reducePow, Nat.reduceSub, Nat.reduceLT, Nat.reduceEqDiff, Nat.reduceAdd, Nat.reduceMul, ↓reduceIte, reduceCtorEq, tab3]
      have : k = keys.length := by simp at hb; omega
      subst this
      exact ⟨by rw [decide_eq_true hall], hM⟩
end Go.Eng.Try
