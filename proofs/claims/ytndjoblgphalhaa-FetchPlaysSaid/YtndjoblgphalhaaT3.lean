/- Contracts: tenants, prefixes, runes. -/
import Derived.Test.YtndjoblgphalhaaT2
namespace Go.Eng.Try
open Go.Proofs
attribute [local go_sem] oss_nil_eq Int.toNat_natCast maxLen Nat.zero_le run step opv slotV opvs dstLt evalQ constV isA setD upd_app guardB List.getD_cons_zero List.getD_cons_succ List.getD_nil V.tag V.cells decide_true decide_false Bool.false_eq_true if_false if_true ne_eq Nat.one_ne_zero not_false_eq_true keyKind cellOk List.forall_mem_cons List.not_mem_nil false_implies true_and and_true implies_true forall_const bump addrAdd loadA loadV part opV binV eqlV eqOk pickV unV convV boundV fillV storeTo splice List.getElem?_cons_zero List.getElem?_cons_succ List.take_succ_cons List.take_zero List.drop_succ_cons List.drop_zero List.length_cons List.length_nil List.cons_append List.nil_append List.append_nil List.getElem_toArray List.getElem?_toArray List.size_toArray and_self eqV_tupl eqV_tupr fbt tbf beq_self_eq_true Bool.not_false Bool.not_true cond_true cond_false newVarW updH_self updH_updH isFuncFn runT stepT stepC isCallV callOf callV escL memN runW stepW stepCW runD stepD safeB slots ownS stepOwn reads runM stepM emptyH
set_option linter.unusedSimpArgs false
set_option linter.unusedVariables false

theorem s53 (s : B) (M : Heap) : Pure Try.prog 53 [.str s] M (.bool (tenantQ s)) := by
  refine Spec.strip' (fun _ => false) ok53 (by simp) (fun hlen => ?_)
  have hlen : s.length ≤ 9223372036854775807 := by simpa [lensOk, lenOk, maxLen] using hlen
  unfold c53
  refine wps_seq_k fun K1 hK1 => wps_reg ?_; simp only [go_sem, Nat.reduceLeDiff, Nat.reducePow, Nat.reduceSub, Nat.reduceLT, Nat.reduceEqDiff, Nat.reduceAdd, Nat.reduceMul, ↓reduceIte, reduceCtorEq]; (first | (refine hK1 _ ?_; clear hK1 K1) | (refine ⟨?_, hK1 _ ?_⟩ <;> clear hK1 K1; first | (· (simp; done)) | (· (simp +contextual; done)) | (· (simp +contextual; omega)) | (· grind) | skip))
  refine wps_seq_k fun K2 hK2 => ?_
  refine wps_seq_k fun K1 hK1 => wps_reg ?_; simp only [go_sem, Nat.reduceLeDiff, Nat.reducePow, Nat.reduceSub, Nat.reduceLT, Nat.reduceEqDiff, Nat.reduceAdd, Nat.reduceMul, ↓reduceIte, reduceCtorEq]; (first | (refine hK1 _ ?_; clear hK1 K1) | (refine ⟨?_, hK1 _ ?_⟩ <;> clear hK1 K1; first | (· (simp; done)) | (· (simp +contextual; done)) | (· (simp +contextual; omega)) | (· grind) | skip))
  refine wps_block (wps_count 3 s.length (fun k st => (s.take k).all tenC = true ∧ (0 < k → (s.getD 0 0).toNat ≠ 45) ∧ st.M = M ∧ st.fr 0 = .str s) ?_ ?_)
  · exact ⟨0, by simp, by simp only [go_sem, Nat.reduceLeDiff, Nat.reducePow, Nat.reduceSub, Nat.reduceLT, Nat.reduceEqDiff, Nat.reduceAdd, Nat.reduceMul, ↓reduceIte, reduceCtorEq]; rfl, by simp, by simp, by simp only [go_sem, Nat.reduceLeDiff, Nat.reducePow, Nat.reduceSub, Nat.reduceLT, Nat.reduceEqDiff, Nat.reduceAdd, Nat.reduceMul, ↓reduceIte, reduceCtorEq], by simp only [go_sem, Nat.reduceLeDiff, Nat.reducePow, Nat.reduceSub, Nat.reduceLT, Nat.reduceEqDiff, Nat.reduceAdd, Nat.reduceMul, ↓reduceIte, reduceCtorEq]⟩
  · rintro k fr M' gen hk hi ⟨hall, h45, hM, h0⟩
    simp only at hM h0; subst hM
    refine wps_seq_k fun K3 hK3 => ?_
    refine wps_seq_k fun K1 hK1 => wps_reg ?_; simp only [go_sem, Nat.reduceLeDiff, Nat.reducePow, Nat.reduceSub, Nat.reduceLT, Nat.reduceEqDiff, Nat.reduceAdd, Nat.reduceMul, ↓reduceIte, reduceCtorEq, und9, hi, h0]; (first | (refine hK1 _ ?_; clear hK1 K1) | (refine ⟨?_, hK1 _ ?_⟩ <;> clear hK1 K1; first | (· (simp; done)) | (· (simp +contextual; done)) | (· (simp +contextual; omega)) | (· grind) | skip))
    refine wps_cond (by simp only [go_sem, Nat.reduceLeDiff, Nat.reducePow, Nat.reduceSub, Nat.reduceLT, Nat.reduceEqDiff, Nat.reduceAdd, Nat.reduceMul, ↓reduceIte, reduceCtorEq]; rfl) (by simp) (fun hb => ?_) (fun hb => ?_)
    · refine hK3 _ ?_; clear hK3 K3
      simp only [decide_eq_true_eq] at hb
      have hk' : k < s.length := by omega
      refine wps_seq_k fun K4 hK4 => ?_
      refine wps_block ?_
      refine wps_seq_k fun K1 hK1 => wps_reg ?_; simp only [go_sem, Nat.reduceLeDiff, Nat.reducePow, Nat.reduceSub, Nat.reduceLT, Nat.reduceEqDiff, Nat.reduceAdd, Nat.reduceMul, ↓reduceIte, reduceCtorEq, und9, hi, h0]; (first | (refine hK1 _ ?_; clear hK1 K1) | (refine ⟨?_, hK1 _ ?_⟩ <;> clear hK1 K1; first | (· (simp; done)) | (· (simp +contextual; done)) | (· (simp +contextual; omega)) | (· grind) | skip))
      refine wps_seq_k fun K1 hK1 => wps_reg ?_; simp only [go_sem, Nat.reduceLeDiff, Nat.reducePow, Nat.reduceSub, Nat.reduceLT, Nat.reduceEqDiff, Nat.reduceAdd, Nat.reduceMul, ↓reduceIte, reduceCtorEq, hi]; (first | (refine hK1 _ ?_; clear hK1 K1) | (refine ⟨?_, hK1 _ ?_⟩ <;> clear hK1 K1; first | (· (simp; done)) | (· (simp +contextual; done)) | (· (simp +contextual; omega)) | (· grind) | skip))
      refine wps_cond (by simp only [go_sem, Nat.reduceLeDiff, Nat.reducePow, Nat.reduceSub, Nat.reduceLT, Nat.reduceEqDiff, Nat.reduceAdd, Nat.reduceMul, ↓reduceIte, reduceCtorEq]; rfl) (by simp) (fun hb => ?_) (fun hb => ?_)
      · refine wps_seq_k fun K1 hK1 => wps_reg ?_; simp only [go_sem, Nat.reduceLeDiff, Nat.reducePow, Nat.reduceSub, Nat.reduceLT, Nat.reduceEqDiff, Nat.reduceAdd, Nat.reduceMul, ↓reduceIte, reduceCtorEq]; (first | (refine hK1 _ ?_; clear hK1 K1) | (refine ⟨?_, hK1 _ ?_⟩ <;> clear hK1 K1; first | (· (simp; done)) | (· (simp +contextual; done)) | (· (simp +contextual; omega)) | (· grind) | skip))
        simp only [wps, endQ, resV, resVs, resV1, go_sem, Nat.reduceLeDiff, Nat.reducePow, Nat.reduceSub, Nat.reduceLT, Nat.reduceEqDiff, Nat.reduceAdd, Nat.reduceMul, ↓reduceIte, reduceCtorEq]
        simp only [true_and, and_true, V.bool.injEq]
        symm
        have hq : tenC (s.getD k 0) = false ∨ (k = 0 ∧ (s.getD k 0).toNat = 45) := by
          simp [tenC] at hb ⊢
          omega
        rcases hq with hq | ⟨rfl, hq⟩
        · simp [tenantQ, not_all hk' hq]
        · have : ([45] : B).isPrefixOf s = true := by
            cases s with
            | nil => simp at hk'
            | cons a l =>
              have ha : a = 45 := UInt8.toNat_inj.1 hq
              subst ha; simp [List.isPrefixOf]
          simp [tenantQ, this]
      · refine hK4 _ ?_; clear hK4 K4
        refine wps_reg ?_; simp only [go_sem, Nat.reduceLeDiff, Nat.reducePow, Nat.reduceSub, Nat.reduceLT, Nat.reduceEqDiff, Nat.reduceAdd, Nat.reduceMul, ↓reduceIte, reduceCtorEq, hi]
        refine ⟨hk', ?_, ?_, ?_, h0⟩
        · rw [IntWalk.i64_in _ (by omega)]
        · refine all_take_succ hall hk' ?_
          simp [tenC] at hb ⊢
          omega
        · intro _
          by_cases hk0 : k = 0
          · subst hk0; simp at hb ⊢; omega
          · exact h45 (by omega)
    · refine hK2 _ ?_
      refine wps_seq_k fun K1 hK1 => wps_reg ?_; simp only [go_sem, Nat.reduceLeDiff, Nat.reducePow, Nat.reduceSub, Nat.reduceLT, Nat.reduceEqDiff, Nat.reduceAdd, Nat.reduceMul, ↓reduceIte, reduceCtorEq, und9, h0]; (first | (refine hK1 _ ?_; clear hK1 K1) | (refine ⟨?_, hK1 _ ?_⟩ <;> clear hK1 K1; first | (· (simp; done)) | (· (simp +contextual; done)) | (· (simp +contextual; omega)) | (· grind) | skip))
      simp only [wps, endQ, resV, resVs, resV1, go_sem, Nat.reduceLeDiff, Nat.reducePow, Nat.reduceSub, Nat.reduceLT, Nat.reduceEqDiff, Nat.reduceAdd, Nat.reduceMul, ↓reduceIte, reduceCtorEq]
      have hall := all_done hall hk hb
      simp only [true_and, and_true, V.bool.injEq, tenantQ, hall]
      have : ([45] : B).isPrefixOf s = false := by
        cases s with
        | nil => rfl
        | cons a l =>
          simp at hb hk
          have h := h45 (by omega)
          have : a ≠ 45 := fun e => by subst e; simp at h
          simp [List.isPrefixOf]
          exact fun e => this e.symm
      rw [this, Bool.eq_iff_iff]
      simp
      omega

theorem take_eq_prefix (p s : B) : (decide (p.length ≤ s.length) && (s.take p.length == p)) = p.isPrefixOf s := by
  rw [Bool.eq_iff_iff]
  simp only [Bool.and_eq_true, decide_eq_true_eq, beq_iff_eq, List.isPrefixOf_iff_prefix]
  constructor
  · rintro ⟨h, e⟩; rw [← e]; exact List.take_prefix _ _
  · intro h
    exact ⟨h.length_le, (List.prefix_iff_eq_take.1 h).symm⟩

theorem s61 (s p : B) (M : Heap) : Pure Try.prog 61 [.str s, .str p] M (.bool (p.isPrefixOf s)) := by
  refine Spec.strip (fun _ => false) ok61 (by simp) ?_
  unfold c61
  refine wps_seq_k fun K1 hK1 => wps_reg ?_; simp only [go_sem, Nat.reduceLeDiff, Nat.reducePow, Nat.reduceSub, Nat.reduceLT, Nat.reduceEqDiff, Nat.reduceAdd, Nat.reduceMul, ↓reduceIte, reduceCtorEq]; (first | (refine hK1 _ ?_; clear hK1 K1) | (refine ⟨?_, hK1 _ ?_⟩ <;> clear hK1 K1; first | (· (simp; done)) | (· (simp +contextual; done)) | (· (simp +contextual; omega)) | (· grind) | skip))
  refine wps_seq_k fun K1 hK1 => wps_reg ?_; simp only [go_sem, Nat.reduceLeDiff, Nat.reducePow, Nat.reduceSub, Nat.reduceLT, Nat.reduceEqDiff, Nat.reduceAdd, Nat.reduceMul, ↓reduceIte, reduceCtorEq, und9, sliceV, cutL, boundsOk]; (first | (refine hK1 _ ?_; clear hK1 K1) | (refine ⟨?_, hK1 _ ?_⟩ <;> clear hK1 K1; first | (· (simp; done)) | (· (simp +contextual; done)) | (· (simp +contextual; omega)) | (· grind) | skip))
  simp only [wps, endQ, resV, resVs, resV1, go_sem, Nat.reduceLeDiff, Nat.reducePow, Nat.reduceSub, Nat.reduceLT, Nat.reduceEqDiff, Nat.reduceAdd, Nat.reduceMul, ↓reduceIte, reduceCtorEq]
  simp only [true_and, and_true, V.bool.injEq, Option.map, Int.toNat_natCast]
  rw [← take_eq_prefix]
  simp [GE.ge]

def tab0 : Tab := fun M id vs => match id, vs with
  | 28, [.str s] => some (True, .bool (objectQ s))
  | 29, [.agg [.int .i64 x, .int .i64 y]] => some (True, .bool (decide (0 ≤ x) && (decide (x ≤ y) && decide (y ≤ 4611686018427387904))))
  | 31, [.str s] => some (True, .bool (objectQ s))
  | 42, [.agg [.str s, .bool _]] => some (True, .bool (tagR s))
  | 44, [.agg [.str s, .bool _]] => some (True, .bool (tagR s))
  | 53, [.str s] => some (True, .bool (tenantQ s))
  | 59, [.str s] => some (True, .bool (keyQ s))
  | 61, [.str s, .str p] => some (True, .bool (p.isPrefixOf s))
  | _, _ => none

theorem tab0_ok : TabOk Try.prog tab0 := by
  intro M id vs g r h hg
  unfold tab0 at h
  split at h <;> (try simp only [Option.some.injEq, Prod.mk.injEq, reduceCtorEq] at h) <;> (try (obtain ⟨rfl, rfl⟩ := h))
  · exact s28 _ _
  · exact s29 _ _ _
  · exact s31 _ _
  · exact s42 _ _ _
  · exact s44 _ _ _
  · exact s53 _ _
  · exact s59 _ _
  · exact s61 _ _ _

theorem s57 (s p : B) (M : Heap) : Pure Try.prog 57 [.str s, .str p] M (.bool (p.isPrefixOf s)) := by
  refine Spec.strip (fun _ => false) ok57 (by simp) ?_
  unfold c57
  refine wps_seq_k fun K1 hK1 => wps_regT tab0 tab0_ok ?_; simp only [go_sem, Nat.reduceLeDiff, Nat.reducePow, Nat.reduceSub, Nat.reduceLT, Nat.reduceEqDiff, Nat.reduceAdd, Nat.reduceMul, ↓reduceIte, reduceCtorEq, tab0]; (first | (refine hK1 _ ?_; clear hK1 K1) | (refine ⟨?_, hK1 _ ?_⟩ <;> clear hK1 K1; first | (· (simp; done)) | (· (simp +contextual; done)) | (· (simp +contextual; omega)) | (· grind) | skip))
  refine wps_seq_k fun K1 hK1 => wps_regT tab0 tab0_ok ?_; simp only [go_sem, Nat.reduceLeDiff, Nat.reducePow, Nat.reduceSub, Nat.reduceLT, Nat.reduceEqDiff, Nat.reduceAdd, Nat.reduceMul, ↓reduceIte, reduceCtorEq, tab0, und9]; (first | (refine hK1 _ ?_; clear hK1 K1) | (refine ⟨?_, hK1 _ ?_⟩ <;> clear hK1 K1; first | (· (simp; done)) | (· (simp +contextual; done)) | (· (simp +contextual; omega)) | (· grind) | skip))
  simp only [wps, endQ, resV, resVs, resV1, go_sem, Nat.reduceLeDiff, Nat.reducePow, Nat.reduceSub, Nat.reduceLT, Nat.reduceEqDiff, Nat.reduceAdd, Nat.reduceMul, ↓reduceIte, reduceCtorEq, tab0]
def odd1 (c : Int) : Bool := decide (c < 33) || decide (126 < c)
def odd2 (c : Int) : Bool := decide (126 < c)
def odd3 (c : Int) : Bool := !((decide (97 ≤ bitsV .or .i32 c 32) && decide (bitsV .or .i32 c 32 ≤ 122)) || (decide (48 ≤ c) && decide (c ≤ 57)) || (c == 45) || (c == 95))
theorem s58 (c : Int) (M : Heap) : Pure Try.prog 58 [.int .i32 c] M (.bool (odd1 c)) := by
  refine Spec.strip (fun _ => false) ok58 (by simp) ?_
  unfold c58
  refine wps_seq_k fun K1 hK1 => wps_regT tab0 tab0_ok ?_; simp only [go_sem, Nat.reduceLeDiff, Nat.reducePow, Nat.reduceSub, Nat.reduceLT, Nat.reduceEqDiff, Nat.reduceAdd, Nat.reduceMul, ↓reduceIte, reduceCtorEq, tab0]; (first | (refine hK1 _ ?_; clear hK1 K1) | (refine ⟨?_, hK1 _ ?_⟩ <;> clear hK1 K1; first | (· (simp; done)) | (· (simp +contextual; done)) | (· (simp +contextual; omega)) | (· grind) | skip))
  refine wps_seq_k fun K1 hK1 => wps_regT tab0 tab0_ok ?_; simp only [go_sem, Nat.reduceLeDiff, Nat.reducePow, Nat.reduceSub, Nat.reduceLT, Nat.reduceEqDiff, Nat.reduceAdd, Nat.reduceMul, ↓reduceIte, reduceCtorEq, tab0]; (first | (refine hK1 _ ?_; clear hK1 K1) | (refine ⟨?_, hK1 _ ?_⟩ <;> clear hK1 K1; first | (· (simp; done)) | (· (simp +contextual; done)) | (· (simp +contextual; omega)) | (· grind) | skip))
  simp only [wps, endQ, resV, resVs, resV1, go_sem, Nat.reduceLeDiff, Nat.reducePow, Nat.reduceSub, Nat.reduceLT, Nat.reduceEqDiff, Nat.reduceAdd, Nat.reduceMul, ↓reduceIte, reduceCtorEq, tab0]
  simp [odd1]
theorem s55 (c : Int) (M : Heap) : Pure Try.prog 55 [.int .i32 c] M (.bool (odd2 c)) := by
  refine Spec.strip (fun _ => false) ok55 (by simp) ?_
  unfold c55
  refine wps_seq_k fun K1 hK1 => wps_regT tab0 tab0_ok ?_; simp only [go_sem, Nat.reduceLeDiff, Nat.reducePow, Nat.reduceSub, Nat.reduceLT, Nat.reduceEqDiff, Nat.reduceAdd, Nat.reduceMul, ↓reduceIte, reduceCtorEq, tab0]; (first | (refine hK1 _ ?_; clear hK1 K1) | (refine ⟨?_, hK1 _ ?_⟩ <;> clear hK1 K1; first | (· (simp; done)) | (· (simp +contextual; done)) | (· (simp +contextual; omega)) | (· grind) | skip))
  refine wps_seq_k fun K1 hK1 => wps_regT tab0 tab0_ok ?_; simp only [go_sem, Nat.reduceLeDiff, Nat.reducePow, Nat.reduceSub, Nat.reduceLT, Nat.reduceEqDiff, Nat.reduceAdd, Nat.reduceMul, ↓reduceIte, reduceCtorEq, tab0]; (first | (refine hK1 _ ?_; clear hK1 K1) | (refine ⟨?_, hK1 _ ?_⟩ <;> clear hK1 K1; first | (· (simp; done)) | (· (simp +contextual; done)) | (· (simp +contextual; omega)) | (· grind) | skip))
  simp only [wps, endQ, resV, resVs, resV1, go_sem, Nat.reduceLeDiff, Nat.reducePow, Nat.reduceSub, Nat.reduceLT, Nat.reduceEqDiff, Nat.reduceAdd, Nat.reduceMul, ↓reduceIte, reduceCtorEq, tab0]
  simp [odd2]
theorem s56 (c : Int) (M : Heap) : Pure Try.prog 56 [.int .i32 c] M (.bool (odd3 c)) := by
  refine Spec.strip (fun _ => false) ok56 (by simp) ?_
  unfold c56
  refine wps_seq_k fun K1 hK1 => wps_regT tab0 tab0_ok ?_; simp only [go_sem, Nat.reduceLeDiff, Nat.reducePow, Nat.reduceSub, Nat.reduceLT, Nat.reduceEqDiff, Nat.reduceAdd, Nat.reduceMul, ↓reduceIte, reduceCtorEq, tab0]; (first | (refine hK1 _ ?_; clear hK1 K1) | (refine ⟨?_, hK1 _ ?_⟩ <;> clear hK1 K1; first | (· (simp; done)) | (· (simp +contextual; done)) | (· (simp +contextual; omega)) | (· grind) | skip))
  refine wps_seq_k fun K1 hK1 => wps_regT tab0 tab0_ok ?_; simp only [go_sem, Nat.reduceLeDiff, Nat.reducePow, Nat.reduceSub, Nat.reduceLT, Nat.reduceEqDiff, Nat.reduceAdd, Nat.reduceMul, ↓reduceIte, reduceCtorEq, tab0]; (first | (refine hK1 _ ?_; clear hK1 K1) | (refine ⟨?_, hK1 _ ?_⟩ <;> clear hK1 K1; first | (· (simp; done)) | (· (simp +contextual; done)) | (· (simp +contextual; omega)) | (· grind) | skip))
  simp only [wps, endQ, resV, resVs, resV1, go_sem, Nat.reduceLeDiff, Nat.reducePow, Nat.reduceSub, Nat.reduceLT, Nat.reduceEqDiff, Nat.reduceAdd, Nat.reduceMul, ↓reduceIte, reduceCtorEq, tab0]
  simp [odd3, Bool.or_assoc]

theorem s60 (s : B) (id : FuncId) (p : Int → Bool) (hp : ∀ (c : Int) (M : Heap), Pure Try.prog id [.int .i32 c] M (.bool (p c))) (M : Heap) :
    Pure Try.prog 60 [.str s, .fn (.func id) [] [], .bool true] M (.int .i64 (ixf p s s.length 0)) := by
  refine Spec.strip (fun _ => false) ok60 (by simp) ?_
  unfold c60
  refine wps_seq_k fun K1 hK1 => wps_reg ?_; simp only [go_sem, Nat.reduceLeDiff, Nat.reducePow, Nat.reduceSub, Nat.reduceLT, Nat.reduceEqDiff, Nat.reduceAdd, Nat.reduceMul, ↓reduceIte, reduceCtorEq]; (first | (refine hK1 _ ?_; clear hK1 K1) | (refine ⟨?_, hK1 _ ?_⟩ <;> clear hK1 K1; first | (· (simp; done)) | (· (simp +contextual; done)) | (· (simp +contextual; omega)) | (· grind) | skip))
  refine wps_seq_k fun K2 hK2 => ?_
  refine wps_seq_k fun K1 hK1 => wps_reg ?_; simp only [go_sem, Nat.reduceLeDiff, Nat.reducePow, Nat.reduceSub, Nat.reduceLT, Nat.reduceEqDiff, Nat.reduceAdd, Nat.reduceMul, ↓reduceIte, reduceCtorEq, und9]; (first | (refine oss_obl ?_ ?_; first | (· (simp; done)) | (· (simp +contextual; done)) | (· (simp +contextual; omega)) | (· grind) | skip) | skip)
  refine oss_op rfl rfl ?_; simp only [opw, SO.oper, go_sem, Nat.reduceLeDiff, Nat.reducePow, Nat.reduceSub, Nat.reduceLT, Nat.reduceEqDiff, Nat.reduceAdd, Nat.reduceMul, ↓reduceIte, reduceCtorEq, und9]
  (first | (refine hK1 _ ?_; clear hK1 K1) | (refine ⟨?_, hK1 _ ?_⟩ <;> clear hK1 K1; first | (· (simp; done)) | (· (simp +contextual; done)) | (· (simp +contextual; omega)) | (· grind) | skip))
  refine wps_block (wps_loop (fun st => ∃ pos f, st.fr 10 = .itr 0 s pos ∧ ixf p s f pos = ixf p s s.length 0 ∧ s.length ≤ f + pos ∧ st.M = M ∧ st.fr 1 = .fn (.func id) [] [] ∧ st.fr 2 = .bool true) (fun st => match st.fr 10 with | .itr _ _ pos => s.length - pos | _ => 0) ?_ ?_)
  · refine ⟨0, s.length, ?_, rfl, by omega, ?_, ?_, ?_⟩ <;> simp only [go_sem, Nat.reduceLeDiff, Nat.reducePow, Nat.reduceSub, Nat.reduceLT, Nat.reduceEqDiff, Nat.reduceAdd, Nat.reduceMul, ↓reduceIte, reduceCtorEq]
  · rintro fr M' gen ⟨pos, f, h10, hx, hf, hM, h1, h2⟩
    simp only at hM h10 h1 h2; subst hM
    refine wps_seq_k fun K3 hK3 => ?_
    refine wps_reg ?_; simp only [go_sem, Nat.reduceLeDiff, Nat.reducePow, Nat.reduceSub, Nat.reduceLT, Nat.reduceEqDiff, Nat.reduceAdd, Nat.reduceMul, ↓reduceIte, reduceCtorEq]; (first | (refine oss_obl ?_ ?_; first | (· (simp; done)) | (· (simp +contextual; done)) | (· (simp +contextual; omega)) | (· grind) | skip) | skip)
    refine oss_op rfl rfl ?_; simp only [opw, SO.oper, go_sem, Nat.reduceLeDiff, Nat.reducePow, Nat.reduceSub, Nat.reduceLT, Nat.reduceEqDiff, Nat.reduceAdd, Nat.reduceMul, ↓reduceIte, reduceCtorEq, h10]
    refine ⟨fun hlt => ?_, fun hge => ?_⟩
    · refine oss_run ?_; simp only [go_sem, Nat.reduceLeDiff, Nat.reducePow, Nat.reduceSub, Nat.reduceLT, Nat.reduceEqDiff, Nat.reduceAdd, Nat.reduceMul, ↓reduceIte, reduceCtorEq]
      refine hK3 _ ?_; clear hK3 K3
      refine wps_seq_k fun K4 hK4 => ?_
      refine wps_cond (by simp only [go_sem, Nat.reduceLeDiff, Nat.reducePow, Nat.reduceSub, Nat.reduceLT, Nat.reduceEqDiff, Nat.reduceAdd, Nat.reduceMul, ↓reduceIte, reduceCtorEq]; rfl) (by simp) (fun hb => ?_) (fun hb => ?_)
      · refine hK4 _ ?_; clear hK4 K4
        refine wps_block ?_
        refine wps_seq_k fun K1 hK1 => wps_reg ?_; simp only [go_sem, Nat.reduceLeDiff, Nat.reducePow, Nat.reduceSub, Nat.reduceLT, Nat.reduceEqDiff, Nat.reduceAdd, Nat.reduceMul, ↓reduceIte, reduceCtorEq]; (first | (refine hK1 _ ?_; clear hK1 K1) | (refine ⟨?_, hK1 _ ?_⟩ <;> clear hK1 K1; first | (· (simp; done)) | (· (simp +contextual; done)) | (· (simp +contextual; omega)) | (· grind) | skip))
        refine wps_seq_k fun K1 hK1 => wps_reg ?_; simp only [go_sem, Nat.reduceLeDiff, Nat.reducePow, Nat.reduceSub, Nat.reduceLT, Nat.reduceEqDiff, Nat.reduceAdd, Nat.reduceMul, ↓reduceIte, reduceCtorEq, und21, h1]; (first | (refine oss_obl ?_ ?_; first | (· (simp; done)) | (· (simp +contextual; done)) | (· (simp +contextual; omega)) | (· grind) | skip) | skip)
        refine oss_call rfl (by simp only [go_sem, Nat.reduceLeDiff, Nat.reducePow, Nat.reduceSub, Nat.reduceLT, Nat.reduceEqDiff, Nat.reduceAdd, Nat.reduceMul, ↓reduceIte, reduceCtorEq, h1]; rfl) (by simp) (hp _ _) ?_; rintro _ _ ⟨rfl, rfl⟩
        refine oss_run ?_; simp only [go_sem, Nat.reduceLeDiff, Nat.reducePow, Nat.reduceSub, Nat.reduceLT, Nat.reduceEqDiff, Nat.reduceAdd, Nat.reduceMul, ↓reduceIte, reduceCtorEq, eq4, h2]; (first | (refine hK1 _ ?_; clear hK1 K1) | (refine ⟨?_, hK1 _ ?_⟩ <;> clear hK1 K1; first | (· (simp; done)) | (· (simp +contextual; done)) | (· (simp +contextual; omega)) | (· grind) | skip))
        have hstep : ∀ f', f = f' + 1 → ixf p s (f' + 1) pos = if p (Utf8.decode ⟨⟨s⟩⟩ pos).1 then (pos : Int) else ixf p s f' (pos + (Utf8.decode ⟨⟨s⟩⟩ pos).2) := by
          intro f' _
          simp only [ixf, hlt, if_true]
        obtain ⟨f', rfl⟩ : ∃ f', f = f' + 1 := ⟨f - 1, by omega⟩
        have hstep := hstep f' rfl
        have hw := decode_pos s pos hlt
        refine wps_cond (by simp only [go_sem, Nat.reduceLeDiff, Nat.reducePow, Nat.reduceSub, Nat.reduceLT, Nat.reduceEqDiff, Nat.reduceAdd, Nat.reduceMul, ↓reduceIte, reduceCtorEq]; rfl) (by simp) (fun hb => ?_) (fun hb => ?_)
        · refine wps_seq_k fun K1 hK1 => wps_reg ?_; simp only [go_sem, Nat.reduceLeDiff, Nat.reducePow, Nat.reduceSub, Nat.reduceLT, Nat.reduceEqDiff, Nat.reduceAdd, Nat.reduceMul, ↓reduceIte, reduceCtorEq]; (first | (refine hK1 _ ?_; clear hK1 K1) | (refine ⟨?_, hK1 _ ?_⟩ <;> clear hK1 K1; first | (· (simp; done)) | (· (simp +contextual; done)) | (· (simp +contextual; omega)) | (· grind) | skip))
          simp only [wps, endQ, resV, resVs, resV1, go_sem, Nat.reduceLeDiff, Nat.reducePow, Nat.reduceSub, Nat.reduceLT, Nat.reduceEqDiff, Nat.reduceAdd, Nat.reduceMul, ↓reduceIte, reduceCtorEq]
          simp at hb
          rw [hstep, hb] at hx
          simp at hx
          rw [← hx]
        · simp only [wps, endQ, resV, resVs, resV1, go_sem, Nat.reduceLeDiff, Nat.reducePow, Nat.reduceSub, Nat.reduceLT, Nat.reduceEqDiff, Nat.reduceAdd, Nat.reduceMul, ↓reduceIte, reduceCtorEq]
          simp at hb
          rw [hstep, hb] at hx
          simp at hx
          refine ⟨⟨_, f', rfl, hx, by omega, h1, h2⟩, ?_⟩
          simp only [h10]
          omega
      · simp at hb
    · refine oss_run ?_; simp only [go_sem, Nat.reduceLeDiff, Nat.reducePow, Nat.reduceSub, Nat.reduceLT, Nat.reduceEqDiff, Nat.reduceAdd, Nat.reduceMul, ↓reduceIte, reduceCtorEq]
      refine hK3 _ ?_; clear hK3 K3
      refine wps_seq_k fun K4 hK4 => ?_
      refine wps_cond (by simp only [go_sem, Nat.reduceLeDiff, Nat.reducePow, Nat.reduceSub, Nat.reduceLT, Nat.reduceEqDiff, Nat.reduceAdd, Nat.reduceMul, ↓reduceIte, reduceCtorEq]; rfl) (by simp) (fun hb => ?_) (fun hb => ?_)
      · simp at hb
      · refine hK2 _ ?_
        refine wps_seq_k fun K1 hK1 => wps_reg ?_; simp only [go_sem, Nat.reduceLeDiff, Nat.reducePow, Nat.reduceSub, Nat.reduceLT, Nat.reduceEqDiff, Nat.reduceAdd, Nat.reduceMul, ↓reduceIte, reduceCtorEq]; (first | (refine hK1 _ ?_; clear hK1 K1) | (refine ⟨?_, hK1 _ ?_⟩ <;> clear hK1 K1; first | (· (simp; done)) | (· (simp +contextual; done)) | (· (simp +contextual; omega)) | (· grind) | skip))
        simp only [wps, endQ, resV, resVs, resV1, go_sem, Nat.reduceLeDiff, Nat.reducePow, Nat.reduceSub, Nat.reduceLT, Nat.reduceEqDiff, Nat.reduceAdd, Nat.reduceMul, ↓reduceIte, reduceCtorEq]
        cases f with
        | zero => simp [← hx, ixf]
        | succ f => simp [← hx, ixf, Nat.not_lt.2 hge]
end Go.Eng.Try
