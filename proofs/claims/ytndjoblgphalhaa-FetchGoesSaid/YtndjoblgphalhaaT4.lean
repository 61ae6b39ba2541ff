/- Contracts: tags, numbers, spans. -/
import Derived.Test.YtndjoblgphalhaaT3
namespace Go.Eng.Try
open Go.Proofs
attribute [local go_sem] oss_nil_eq Int.toNat_natCast maxLen Nat.zero_le run step opv slotV opvs dstLt evalQ constV isA setD upd_app guardB List.getD_cons_zero List.getD_cons_succ List.getD_nil V.tag V.cells decide_true decide_false Bool.false_eq_true if_false if_true ne_eq Nat.one_ne_zero not_false_eq_true keyKind cellOk List.forall_mem_cons List.not_mem_nil false_implies true_and and_true implies_true forall_const bump addrAdd loadA loadV part opV binV eqlV eqOk pickV unV convV boundV fillV storeTo splice List.getElem?_cons_zero List.getElem?_cons_succ List.take_succ_cons List.take_zero List.drop_succ_cons List.drop_zero List.length_cons List.length_nil List.cons_append List.nil_append List.append_nil List.getElem_toArray List.getElem?_toArray List.size_toArray and_self eqV_tupl eqV_tupr fbt tbf beq_self_eq_true Bool.not_false Bool.not_true cond_true cond_false newVarW updH_self updH_updH isFuncFn runT stepT stepC isCallV callOf callV escL memN runW stepW stepCW runD stepD safeB slots ownS stepOwn reads runM stepM emptyH
set_option linter.unusedSimpArgs false
set_option linter.unusedVariables false

def tagNone (t : B) (w : Bool) : Bool := (t == []) && !w
def strongQ (t : B) (w : Bool) : Bool := tagNone t w || (tagR t && !w)
def spanQ (a b : Int) : Bool := decide (0 ≤ a) && (decide (a ≤ b) && decide (b ≤ 4611686018427387904))
def numQ (n least : Int) : Bool := decide (least ≤ n) && decide (n ≤ 1099511627776)
def weakEq (t u : B) : Bool := tagR t && (tagR u && (t == u))
def strongEq (t : B) (w : Bool) (u : B) (x : Bool) : Bool := weakEq t u && (!w && !x)
def taggedQ (t : B) (w : Bool) : Bool := tagNone t w || tagR t

theorem or32 (n : Nat) (h : n ≤ 1114111) : bitsV .or .i32 (n : Int) 32 = ((n ||| 32 : Nat) : Int) := by
  have h1 : (n ||| 32 : Nat) < 2 ^ 21 := Nat.or_lt_two_pow (by omega) (by decide)
  have h2 : (BitVec.ofInt 32 (n : Int) ||| BitVec.ofInt 32 32).toNat = n ||| 32 := by
    rw [BitVec.toNat_or, BitVec.toNat_ofInt, BitVec.toNat_ofInt]
    have e1 : ((n : Int) % ((2 ^ 32 : Nat) : Int)).toNat = n := by omega
    have e2 : ((32 : Int) % ((2 ^ 32 : Nat) : Int)).toNat = 32 := by decide
    rw [e1, e2]
  have h3 : bitsV .or .i32 (n : Int) 32 = IntKind.i32.wrap (((BitVec.ofInt 32 (n : Int) ||| BitVec.ofInt 32 32).toNat : Nat) : Int) := rfl
  rw [h3, h2]
  exact IntWalk.i32_in _ (by omega)

theorem hi1 (c : Int) (h : 128 ≤ c) (h' : c ≤ 1114111) : odd1 c = true := by simp [odd1]; omega
theorem hi2 (c : Int) (h : 128 ≤ c) (h' : c ≤ 1114111) : odd2 c = true := by simp [odd2]; omega
theorem hi3 (c : Int) (h : 128 ≤ c) (h' : c ≤ 1114111) : odd3 c = true := by
  obtain ⟨n, rfl⟩ := Int.eq_ofNat_of_zero_le (by omega : 0 ≤ c)
  unfold odd3
  rw [or32 n (by omega)]
  have : n ≤ n ||| 32 := Nat.left_le_or
  simp
  omega

def tenN (n : Nat) : Bool := (decide (97 ≤ n) && decide (n ≤ 122)) || (decide (65 ≤ n) && decide (n ≤ 90)) || (decide (48 ≤ n) && decide (n ≤ 57)) || decide (n = 95) || decide (n = 45)
theorem ten_all : ∀ n : Nat, n < 256 → (!((decide (97 ≤ (n ||| 32)) && decide ((n ||| 32) ≤ 122)) || (decide (48 ≤ n) && decide (n ≤ 57)) || decide (n = 45) || decide (n = 95))) = !tenN n := by decide +kernel
theorem odd3_byte (b : UInt8) : (!odd3 b.toNat) = tenC b := by
  have hb := b.toNat_lt
  have h := ten_all b.toNat hb
  have e : odd3 b.toNat = (!((decide (97 ≤ (b.toNat ||| 32)) && decide ((b.toNat ||| 32) ≤ 122)) || (decide (48 ≤ b.toNat) && decide (b.toNat ≤ 57)) || decide (b.toNat = 45) || decide (b.toNat = 95))) := by
    unfold odd3
    rw [or32 _ (by omega), Bool.eq_iff_iff]
    simp
    omega
  rw [e, h]
  simp [tenN, tenC]

theorem all_odd3 (s : B) : decide (ixf odd3 s s.length 0 < 0) = s.all tenC := by
  rw [ixf_neg hi3 s s.length 0 (by omega), List.drop_zero]
  simp only [odd3_byte]
theorem all_odd1 (s : B) : decide (ixf odd1 s s.length 0 < 0) = s.all vis := by
  rw [ixf_neg hi1 s s.length 0 (by omega), List.drop_zero]
  congr 1
  funext b
  (first | rw [V.bool.injEq] | simp only [V.bool.injEq, true_and, and_true] | skip); rw [Bool.eq_iff_iff]; simp [odd1, vis]
  omega
theorem all_odd2 (s : B) (h : tagR s = true) : decide (ixf odd2 s s.length 0 < 0) = true := by
  rw [ixf_neg hi2 s s.length 0 (by omega), List.drop_zero]
  simp only [tagR, Bool.and_eq_true] at h
  rw [List.all_eq_true]
  intro b hb
  have := List.all_eq_true.1 h.2 b hb
  simp [tagC, vis, odd2] at this ⊢
  omega

theorem s54 (s : B) (id : FuncId) (p : Int → Bool) (hp : ∀ (c : Int) (M : Heap), Pure Try.prog id [.int .i32 c] M (.bool (p c))) (M : Heap) :
    Pure Try.prog 54 [.str s, .fn (.func id) [] []] M (.int .i64 (ixf p s s.length 0)) := by
  refine Spec.strip (fun _ => false) ok54 (by simp) ?_
  unfold c54
  refine wps_seq_k fun K1 hK1 => wps_regT tab0 tab0_ok ?_; simp only [go_sem, Nat.reduceLeDiff, Nat.reducePow, Nat.reduceSub, Nat.reduceLT, Nat.reduceEqDiff, Nat.reduceAdd, Nat.reduceMul, ↓reduceIte, reduceCtorEq, tab0]; (first | (refine hK1 _ ?_; clear hK1 K1) | (refine ⟨?_, hK1 _ ?_⟩ <;> clear hK1 K1; first | (· (simp; done)) | (· (simp +contextual; done)) | (· (simp +contextual; omega)) | (· grind) | skip))
  refine wps_seq_k fun K1 hK1 => wps_regT tab0 tab0_ok ?_; simp only [go_sem, Nat.reduceLeDiff, Nat.reducePow, Nat.reduceSub, Nat.reduceLT, Nat.reduceEqDiff, Nat.reduceAdd, Nat.reduceMul, ↓reduceIte, reduceCtorEq, tab0, und4, und81, und9]; (first | (refine oss_obl ?_ ?_; first | (· (simp; done)) | (· (simp +contextual; done)) | (· (simp +contextual; omega)) | (· grind) | skip) | skip)
  refine oss_call rfl (by simp only [go_sem, Nat.reduceLeDiff, Nat.reducePow, Nat.reduceSub, Nat.reduceLT, Nat.reduceEqDiff, Nat.reduceAdd, Nat.reduceMul, ↓reduceIte, reduceCtorEq, tab0]; rfl) (by simp) (s60 s id p hp _) ?_; rintro _ _ ⟨rfl, rfl⟩
  refine oss_runT tab0 tab0_ok ?_; simp only [go_sem, Nat.reduceLeDiff, Nat.reducePow, Nat.reduceSub, Nat.reduceLT, Nat.reduceEqDiff, Nat.reduceAdd, Nat.reduceMul, ↓reduceIte, reduceCtorEq, tab0]; (first | (refine hK1 _ ?_; clear hK1 K1) | (refine ⟨?_, hK1 _ ?_⟩ <;> clear hK1 K1; first | (· (simp; done)) | (· (simp +contextual; done)) | (· (simp +contextual; omega)) | (· grind) | skip))
  simp only [wps, endQ, resV, resVs, resV1, go_sem, Nat.reduceLeDiff, Nat.reducePow, Nat.reduceSub, Nat.reduceLT, Nat.reduceEqDiff, Nat.reduceAdd, Nat.reduceMul, ↓reduceIte, reduceCtorEq, tab0]

theorem s43 (M : Heap) : Pure Try.prog 43 [] M (.int .i64 4611686018427387904) := by
  refine Spec.strip (fun _ => false) ok43 (by simp) ?_
  unfold c43
  refine wps_seq_k fun K1 hK1 => wps_regT tab0 tab0_ok ?_; simp only [go_sem, Nat.reduceLeDiff, Nat.reducePow, Nat.reduceSub, Nat.reduceLT, Nat.reduceEqDiff, Nat.reduceAdd, Nat.reduceMul, ↓reduceIte, reduceCtorEq, tab0]; (first | (refine hK1 _ ?_; clear hK1 K1) | (refine ⟨?_, hK1 _ ?_⟩ <;> clear hK1 K1; first | (· (simp; done)) | (· (simp +contextual; done)) | (· (simp +contextual; omega)) | (· grind) | skip))
  refine wps_seq_k fun K1 hK1 => wps_regT tab0 tab0_ok ?_; simp only [go_sem, Nat.reduceLeDiff, Nat.reducePow, Nat.reduceSub, Nat.reduceLT, Nat.reduceEqDiff, Nat.reduceAdd, Nat.reduceMul, ↓reduceIte, reduceCtorEq, tab0]; (first | (refine hK1 _ ?_; clear hK1 K1) | (refine ⟨?_, hK1 _ ?_⟩ <;> clear hK1 K1; first | (· (simp; done)) | (· (simp +contextual; done)) | (· (simp +contextual; omega)) | (· grind) | skip))
  simp only [wps, endQ, resV, resVs, resV1, go_sem, Nat.reduceLeDiff, Nat.reducePow, Nat.reduceSub, Nat.reduceLT, Nat.reduceEqDiff, Nat.reduceAdd, Nat.reduceMul, ↓reduceIte, reduceCtorEq, tab0]

theorem s46 (n l : Int) (M : Heap) : Pure Try.prog 46 [.int .i64 n, .int .i64 l] M (.bool (numQ n l)) := by
  refine Spec.strip (fun _ => false) ok46 (by simp) ?_
  unfold c46
  refine wps_seq_k fun K1 hK1 => wps_regT tab0 tab0_ok ?_; simp only [go_sem, Nat.reduceLeDiff, Nat.reducePow, Nat.reduceSub, Nat.reduceLT, Nat.reduceEqDiff, Nat.reduceAdd, Nat.reduceMul, ↓reduceIte, reduceCtorEq, tab0]; (first | (refine hK1 _ ?_; clear hK1 K1) | (refine ⟨?_, hK1 _ ?_⟩ <;> clear hK1 K1; first | (· (simp; done)) | (· (simp +contextual; done)) | (· (simp +contextual; omega)) | (· grind) | skip))
  refine wps_seq_k fun K1 hK1 => wps_regT tab0 tab0_ok ?_; simp only [go_sem, Nat.reduceLeDiff, Nat.reducePow, Nat.reduceSub, Nat.reduceLT, Nat.reduceEqDiff, Nat.reduceAdd, Nat.reduceMul, ↓reduceIte, reduceCtorEq, tab0]; (first | (refine hK1 _ ?_; clear hK1 K1) | (refine ⟨?_, hK1 _ ?_⟩ <;> clear hK1 K1; first | (· (simp; done)) | (· (simp +contextual; done)) | (· (simp +contextual; omega)) | (· grind) | skip))
  simp only [wps, endQ, resV, resVs, resV1, go_sem, Nat.reduceLeDiff, Nat.reducePow, Nat.reduceSub, Nat.reduceLT, Nat.reduceEqDiff, Nat.reduceAdd, Nat.reduceMul, ↓reduceIte, reduceCtorEq, tab0]
  simp [numQ]

theorem s34 (t : B) (w : Bool) (M : Heap) : Pure Try.prog 34 [.agg [.str t, .bool w]] M (.bool (!tagNone t w)) := by
  refine Spec.strip (fun _ => false) ok34 (by simp) ?_
  unfold c34
  refine wps_seq_k fun K1 hK1 => wps_regT tab0 tab0_ok ?_; simp only [go_sem, Nat.reduceLeDiff, Nat.reducePow, Nat.reduceSub, Nat.reduceLT, Nat.reduceEqDiff, Nat.reduceAdd, Nat.reduceMul, ↓reduceIte, reduceCtorEq, tab0]; (first | (refine hK1 _ ?_; clear hK1 K1) | (refine ⟨?_, hK1 _ ?_⟩ <;> clear hK1 K1; first | (· (simp; done)) | (· (simp +contextual; done)) | (· (simp +contextual; omega)) | (· grind) | skip))
  refine wps_seq_k fun K1 hK1 => wps_regT tab0 tab0_ok ?_; simp only [go_sem, Nat.reduceLeDiff, Nat.reducePow, Nat.reduceSub, Nat.reduceLT, Nat.reduceEqDiff, Nat.reduceAdd, Nat.reduceMul, ↓reduceIte, reduceCtorEq, tab0, fi25_0, fi25_1, ti4, ti9]; (first | (refine hK1 _ ?_; clear hK1 K1) | (refine ⟨?_, hK1 _ ?_⟩ <;> clear hK1 K1; first | (· (simp; done)) | (· (simp +contextual; done)) | (· (simp +contextual; omega)) | (· grind) | skip))
  simp only [wps, endQ, resV, resVs, resV1, go_sem, Nat.reduceLeDiff, Nat.reducePow, Nat.reduceSub, Nat.reduceLT, Nat.reduceEqDiff, Nat.reduceAdd, Nat.reduceMul, ↓reduceIte, reduceCtorEq, tab0]
  (first | rw [V.bool.injEq] | simp only [V.bool.injEq, true_and, and_true] | skip); rw [Bool.eq_iff_iff]; simp [tagNone]

theorem s51 (t : B) (w : Bool) (M : Heap) : Pure Try.prog 51 [.agg [.str t, .bool w]] M (.bool (tagNone t w)) := by
  refine Spec.strip (fun _ => false) ok51 (by simp) ?_
  unfold c51
  refine wps_seq_k fun K1 hK1 => wps_regT tab0 tab0_ok ?_; simp only [go_sem, Nat.reduceLeDiff, Nat.reducePow, Nat.reduceSub, Nat.reduceLT, Nat.reduceEqDiff, Nat.reduceAdd, Nat.reduceMul, ↓reduceIte, reduceCtorEq, tab0]; (first | (refine hK1 _ ?_; clear hK1 K1) | (refine ⟨?_, hK1 _ ?_⟩ <;> clear hK1 K1; first | (· (simp; done)) | (· (simp +contextual; done)) | (· (simp +contextual; omega)) | (· grind) | skip))
  refine wps_seq_k fun K1 hK1 => wps_regT tab0 tab0_ok ?_; simp only [go_sem, Nat.reduceLeDiff, Nat.reducePow, Nat.reduceSub, Nat.reduceLT, Nat.reduceEqDiff, Nat.reduceAdd, Nat.reduceMul, ↓reduceIte, reduceCtorEq, tab0, fi25_0, fi25_1, ti4, ti9]; (first | (refine hK1 _ ?_; clear hK1 K1) | (refine ⟨?_, hK1 _ ?_⟩ <;> clear hK1 K1; first | (· (simp; done)) | (· (simp +contextual; done)) | (· (simp +contextual; omega)) | (· grind) | skip))
  simp only [wps, endQ, resV, resVs, resV1, go_sem, Nat.reduceLeDiff, Nat.reducePow, Nat.reduceSub, Nat.reduceLT, Nat.reduceEqDiff, Nat.reduceAdd, Nat.reduceMul, ↓reduceIte, reduceCtorEq, tab0]
  (first | rw [V.bool.injEq] | simp only [V.bool.injEq, true_and, and_true] | skip); rw [Bool.eq_iff_iff]; simp [tagNone]

def tab1 : Tab := fun M id vs => match id, vs with
  | 54, [.str s, .fn (.func 55) [] []] => some (True, .int .i64 (ixf odd2 s s.length 0))
  | 54, [.str s, .fn (.func 56) [] []] => some (True, .int .i64 (ixf odd3 s s.length 0))
  | 54, [.str s, .fn (.func 58) [] []] => some (True, .int .i64 (ixf odd1 s s.length 0))
  | 43, [] => some (True, .int .i64 4611686018427387904)
  | 46, [.int .i64 n, .int .i64 l] => some (True, .bool (numQ n l))
  | 34, [.agg [.str t, .bool w]] => some (True, .bool (!tagNone t w))
  | 51, [.agg [.str t, .bool w]] => some (True, .bool (tagNone t w))
  | 57, [.str s, .str p] => some (True, .bool (p.isPrefixOf s))
  | id, vs => tab0 M id vs

theorem tab1_ok : TabOk Try.prog tab1 := by
  intro M id vs g r h hg
  unfold tab1 at h
  split at h <;> (try simp only [Option.some.injEq, Prod.mk.injEq, reduceCtorEq] at h) <;> (try (obtain ⟨rfl, rfl⟩ := h))
  · exact s54 _ _ _ s55 _
  · exact s54 _ _ _ s56 _
  · exact s54 _ _ _ s58 _
  · exact s43 _
  · exact s46 _ _ _
  · exact s34 _ _ _
  · exact s51 _ _ _
  · exact s57 _ _ _
  · exact tab0_ok _ _ _ _ _ h hg

theorem s30 (t : B) (w : Bool) (M : Heap) : Pure Try.prog 30 [.agg [.str t, .bool w]] M (.bool (strongQ t w)) := by
  refine Spec.strip (fun _ => false) ok30 (by simp) ?_
  unfold c30
  refine wps_seq_k fun K1 hK1 => wps_regT tab1 tab1_ok ?_; simp only [go_sem, Nat.reduceLeDiff, Nat.reducePow, Nat.reduceSub, Nat.reduceLT, Nat.reduceEqDiff, Nat.reduceAdd, Nat.reduceMul, ↓reduceIte, reduceCtorEq, tab1]; (first | (refine hK1 _ ?_; clear hK1 K1) | (refine ⟨?_, hK1 _ ?_⟩ <;> clear hK1 K1; first | (· (simp; done)) | (· (simp +contextual; done)) | (· (simp +contextual; omega)) | (· grind) | skip))
  refine wps_seq_k fun K1 hK1 => wps_regT tab1 tab1_ok ?_; simp only [go_sem, Nat.reduceLeDiff, Nat.reducePow, Nat.reduceSub, Nat.reduceLT, Nat.reduceEqDiff, Nat.reduceAdd, Nat.reduceMul, ↓reduceIte, reduceCtorEq, tab1, bs25, eg25, eq25, fi25_1, ti25, ti4, zero25, tab0]; (first | (refine hK1 _ ?_; clear hK1 K1) | (refine ⟨?_, hK1 _ ?_⟩ <;> clear hK1 K1; first | (· (simp; done)) | (· (simp +contextual; done)) | (· (simp +contextual; omega)) | (· grind) | skip))
  simp only [wps, endQ, resV, resVs, resV1, go_sem, Nat.reduceLeDiff, Nat.reducePow, Nat.reduceSub, Nat.reduceLT, Nat.reduceEqDiff, Nat.reduceAdd, Nat.reduceMul, ↓reduceIte, reduceCtorEq, tab1]
  (first | rw [V.bool.injEq] | simp only [V.bool.injEq, true_and, and_true] | skip); rw [Bool.eq_iff_iff]; simp [strongQ, tagNone]
theorem s33 (t : B) (w : Bool) (M : Heap) : Pure Try.prog 33 [.agg [.str t, .bool w]] M (.bool (strongQ t w)) := by
  refine Spec.strip (fun _ => false) ok33 (by simp) ?_
  unfold c33
  refine wps_seq_k fun K1 hK1 => wps_regT tab1 tab1_ok ?_; simp only [go_sem, Nat.reduceLeDiff, Nat.reducePow, Nat.reduceSub, Nat.reduceLT, Nat.reduceEqDiff, Nat.reduceAdd, Nat.reduceMul, ↓reduceIte, reduceCtorEq, tab1]; (first | (refine hK1 _ ?_; clear hK1 K1) | (refine ⟨?_, hK1 _ ?_⟩ <;> clear hK1 K1; first | (· (simp; done)) | (· (simp +contextual; done)) | (· (simp +contextual; omega)) | (· grind) | skip))
  refine wps_seq_k fun K1 hK1 => wps_regT tab1 tab1_ok ?_; simp only [go_sem, Nat.reduceLeDiff, Nat.reducePow, Nat.reduceSub, Nat.reduceLT, Nat.reduceEqDiff, Nat.reduceAdd, Nat.reduceMul, ↓reduceIte, reduceCtorEq, tab1, fi25_1, ti25, ti4, tab0]; (first | (refine hK1 _ ?_; clear hK1 K1) | (refine ⟨?_, hK1 _ ?_⟩ <;> clear hK1 K1; first | (· (simp; done)) | (· (simp +contextual; done)) | (· (simp +contextual; omega)) | (· grind) | skip))
  simp only [wps, endQ, resV, resVs, resV1, go_sem, Nat.reduceLeDiff, Nat.reducePow, Nat.reduceSub, Nat.reduceLT, Nat.reduceEqDiff, Nat.reduceAdd, Nat.reduceMul, ↓reduceIte, reduceCtorEq, tab1]
  (first | rw [V.bool.injEq] | simp only [V.bool.injEq, true_and, and_true] | skip); rw [Bool.eq_iff_iff]; simp [strongQ]
theorem s49 (t u : B) (w x : Bool) (M : Heap) : Pure Try.prog 49 [.agg [.str t, .bool w], .agg [.str u, .bool x]] M (.bool (weakEq t u)) := by
  refine Spec.strip (fun _ => false) ok49 (by simp) ?_
  unfold c49
  refine wps_seq_k fun K1 hK1 => wps_regT tab1 tab1_ok ?_; simp only [go_sem, Nat.reduceLeDiff, Nat.reducePow, Nat.reduceSub, Nat.reduceLT, Nat.reduceEqDiff, Nat.reduceAdd, Nat.reduceMul, ↓reduceIte, reduceCtorEq, tab1]; (first | (refine hK1 _ ?_; clear hK1 K1) | (refine ⟨?_, hK1 _ ?_⟩ <;> clear hK1 K1; first | (· (simp; done)) | (· (simp +contextual; done)) | (· (simp +contextual; omega)) | (· grind) | skip))
  refine wps_seq_k fun K1 hK1 => wps_regT tab1 tab1_ok ?_; simp only [go_sem, Nat.reduceLeDiff, Nat.reducePow, Nat.reduceSub, Nat.reduceLT, Nat.reduceEqDiff, Nat.reduceAdd, Nat.reduceMul, ↓reduceIte, reduceCtorEq, tab1, fi25_0, ti25, ti9, tab0]; (first | (refine hK1 _ ?_; clear hK1 K1) | (refine ⟨?_, hK1 _ ?_⟩ <;> clear hK1 K1; first | (· (simp; done)) | (· (simp +contextual; done)) | (· (simp +contextual; omega)) | (· grind) | skip))
  simp only [wps, endQ, resV, resVs, resV1, go_sem, Nat.reduceLeDiff, Nat.reducePow, Nat.reduceSub, Nat.reduceLT, Nat.reduceEqDiff, Nat.reduceAdd, Nat.reduceMul, ↓reduceIte, reduceCtorEq, tab1]
  simp [weakEq, Bool.and_assoc]
theorem s50 (t u : B) (w x : Bool) (M : Heap) : Pure Try.prog 50 [.agg [.str t, .bool w], .agg [.str u, .bool x]] M (.bool (weakEq t u)) := by
  refine Spec.strip (fun _ => false) ok50 (by simp) ?_
  unfold c50
  refine wps_seq_k fun K1 hK1 => wps_regT tab1 tab1_ok ?_; simp only [go_sem, Nat.reduceLeDiff, Nat.reducePow, Nat.reduceSub, Nat.reduceLT, Nat.reduceEqDiff, Nat.reduceAdd, Nat.reduceMul, ↓reduceIte, reduceCtorEq, tab1]; (first | (refine hK1 _ ?_; clear hK1 K1) | (refine ⟨?_, hK1 _ ?_⟩ <;> clear hK1 K1; first | (· (simp; done)) | (· (simp +contextual; done)) | (· (simp +contextual; omega)) | (· grind) | skip))
  refine wps_seq_k fun K1 hK1 => wps_regT tab1 tab1_ok ?_; simp only [go_sem, Nat.reduceLeDiff, Nat.reducePow, Nat.reduceSub, Nat.reduceLT, Nat.reduceEqDiff, Nat.reduceAdd, Nat.reduceMul, ↓reduceIte, reduceCtorEq, tab1, fi25_0, ti25, ti9, tab0]; (first | (refine hK1 _ ?_; clear hK1 K1) | (refine ⟨?_, hK1 _ ?_⟩ <;> clear hK1 K1; first | (· (simp; done)) | (· (simp +contextual; done)) | (· (simp +contextual; omega)) | (· grind) | skip))
  simp only [wps, endQ, resV, resVs, resV1, go_sem, Nat.reduceLeDiff, Nat.reducePow, Nat.reduceSub, Nat.reduceLT, Nat.reduceEqDiff, Nat.reduceAdd, Nat.reduceMul, ↓reduceIte, reduceCtorEq, tab1]
  simp [weakEq, Bool.and_assoc]
theorem s45 (t : B) (w : Bool) (M : Heap) : Pure Try.prog 45 [.agg [.str t, .bool w]] M (.bool (taggedQ t w)) := by
  refine Spec.strip (fun _ => false) ok45 (by simp) ?_
  unfold c45
  refine wps_seq_k fun K1 hK1 => wps_regT tab1 tab1_ok ?_; simp only [go_sem, Nat.reduceLeDiff, Nat.reducePow, Nat.reduceSub, Nat.reduceLT, Nat.reduceEqDiff, Nat.reduceAdd, Nat.reduceMul, ↓reduceIte, reduceCtorEq, tab1]; (first | (refine hK1 _ ?_; clear hK1 K1) | (refine ⟨?_, hK1 _ ?_⟩ <;> clear hK1 K1; first | (· (simp; done)) | (· (simp +contextual; done)) | (· (simp +contextual; omega)) | (· grind) | skip))
  refine wps_seq_k fun K1 hK1 => wps_regT tab1 tab1_ok ?_; simp only [go_sem, Nat.reduceLeDiff, Nat.reducePow, Nat.reduceSub, Nat.reduceLT, Nat.reduceEqDiff, Nat.reduceAdd, Nat.reduceMul, ↓reduceIte, reduceCtorEq, tab1, bs25, eg25, eq25, fi25_0, ti25, ti9, und81, und9, zero25, tab0]; (first | (refine hK1 _ ?_; clear hK1 K1) | (refine ⟨?_, hK1 _ ?_⟩ <;> clear hK1 K1; first | (· (simp; done)) | (· (simp +contextual; done)) | (· (simp +contextual; omega)) | (· grind) | skip))
  simp only [wps, endQ, resV, resVs, resV1, go_sem, Nat.reduceLeDiff, Nat.reducePow, Nat.reduceSub, Nat.reduceLT, Nat.reduceEqDiff, Nat.reduceAdd, Nat.reduceMul, ↓reduceIte, reduceCtorEq, tab1]
  cases hq : tagR t
  · simp [taggedQ, tagNone, hq]
  · simp [taggedQ, tagNone, hq, all_odd2 t hq]
theorem s47 (s : B) (M : Heap) : Pure Try.prog 47 [.str s] M (.bool (tenantQ s)) := by
  refine Spec.strip (fun _ => false) ok47 (by simp) ?_
  unfold c47
  refine wps_seq_k fun K1 hK1 => wps_regT tab1 tab1_ok ?_; simp only [go_sem, Nat.reduceLeDiff, Nat.reducePow, Nat.reduceSub, Nat.reduceLT, Nat.reduceEqDiff, Nat.reduceAdd, Nat.reduceMul, ↓reduceIte, reduceCtorEq, tab1]; (first | (refine hK1 _ ?_; clear hK1 K1) | (refine ⟨?_, hK1 _ ?_⟩ <;> clear hK1 K1; first | (· (simp; done)) | (· (simp +contextual; done)) | (· (simp +contextual; omega)) | (· grind) | skip))
  refine wps_seq_k fun K1 hK1 => wps_regT tab1 tab1_ok ?_; simp only [go_sem, Nat.reduceLeDiff, Nat.reducePow, Nat.reduceSub, Nat.reduceLT, Nat.reduceEqDiff, Nat.reduceAdd, Nat.reduceMul, ↓reduceIte, reduceCtorEq, tab1]; (first | (refine hK1 _ ?_; clear hK1 K1) | (refine ⟨?_, hK1 _ ?_⟩ <;> clear hK1 K1; first | (· (simp; done)) | (· (simp +contextual; done)) | (· (simp +contextual; omega)) | (· grind) | skip))
  refine wps_seq_k fun K1 hK1 => wps_regT tab1 tab1_ok ?_; simp only [go_sem, Nat.reduceLeDiff, Nat.reducePow, Nat.reduceSub, Nat.reduceLT, Nat.reduceEqDiff, Nat.reduceAdd, Nat.reduceMul, ↓reduceIte, reduceCtorEq, tab1, und81, und9, tab0]; (first | (refine hK1 _ ?_; clear hK1 K1) | (refine ⟨?_, hK1 _ ?_⟩ <;> clear hK1 K1; first | (· (simp; done)) | (· (simp +contextual; done)) | (· (simp +contextual; omega)) | (· grind) | skip))
  simp only [wps, endQ, resV, resVs, resV1, go_sem, Nat.reduceLeDiff, Nat.reducePow, Nat.reduceSub, Nat.reduceLT, Nat.reduceEqDiff, Nat.reduceAdd, Nat.reduceMul, ↓reduceIte, reduceCtorEq, tab1]
  rw [all_odd3]
  (first | rw [V.bool.injEq] | simp only [V.bool.injEq, true_and, and_true] | skip); rw [Bool.eq_iff_iff]; simp [tenantQ]
  omega
theorem s48 (s : B) (M : Heap) : Pure Try.prog 48 [.str s] M (.bool (keyQ s)) := by
  refine Spec.strip (fun _ => false) ok48 (by simp) ?_
  unfold c48
  refine wps_seq_k fun K1 hK1 => wps_regT tab1 tab1_ok ?_; simp only [go_sem, Nat.reduceLeDiff, Nat.reducePow, Nat.reduceSub, Nat.reduceLT, Nat.reduceEqDiff, Nat.reduceAdd, Nat.reduceMul, ↓reduceIte, reduceCtorEq, tab1]; (first | (refine hK1 _ ?_; clear hK1 K1) | (refine ⟨?_, hK1 _ ?_⟩ <;> clear hK1 K1; first | (· (simp; done)) | (· (simp +contextual; done)) | (· (simp +contextual; omega)) | (· grind) | skip))
  refine wps_seq_k fun K1 hK1 => wps_regT tab1 tab1_ok ?_; simp only [go_sem, Nat.reduceLeDiff, Nat.reducePow, Nat.reduceSub, Nat.reduceLT, Nat.reduceEqDiff, Nat.reduceAdd, Nat.reduceMul, ↓reduceIte, reduceCtorEq, tab1, und81, und9, tab0]; (first | (refine hK1 _ ?_; clear hK1 K1) | (refine ⟨?_, hK1 _ ?_⟩ <;> clear hK1 K1; first | (· (simp; done)) | (· (simp +contextual; done)) | (· (simp +contextual; omega)) | (· grind) | skip))
  simp only [wps, endQ, resV, resVs, resV1, go_sem, Nat.reduceLeDiff, Nat.reducePow, Nat.reduceSub, Nat.reduceLT, Nat.reduceEqDiff, Nat.reduceAdd, Nat.reduceMul, ↓reduceIte, reduceCtorEq, tab1]
  rw [all_odd1]
  (first | rw [V.bool.injEq] | simp only [V.bool.injEq, true_and, and_true] | skip); rw [Bool.eq_iff_iff]; simp [keyQ, List.length_pos_iff]
  omega
theorem s32 (a b : Int) (M : Heap) : Pure Try.prog 32 [.agg [.int .i64 a, .int .i64 b]] M (.bool (spanQ a b)) := by
  refine Spec.strip (fun _ => false) ok32 (by simp) ?_
  unfold c32
  refine wps_seq_k fun K1 hK1 => wps_regT tab1 tab1_ok ?_; simp only [go_sem, Nat.reduceLeDiff, Nat.reducePow, Nat.reduceSub, Nat.reduceLT, Nat.reduceEqDiff, Nat.reduceAdd, Nat.reduceMul, ↓reduceIte, reduceCtorEq, tab1]; (first | (refine hK1 _ ?_; clear hK1 K1) | (refine ⟨?_, hK1 _ ?_⟩ <;> clear hK1 K1; first | (· (simp; done)) | (· (simp +contextual; done)) | (· (simp +contextual; omega)) | (· grind) | skip))
  refine wps_seq_k fun K1 hK1 => wps_drawD tab1 tab1_ok (by kernel_rfl) rfl (by kernel_rfl) (by simp only [go_sem, Nat.reduceLeDiff, Nat.reducePow, Nat.reduceSub, Nat.reduceLT, Nat.reduceEqDiff, Nat.reduceAdd, Nat.reduceMul, ↓reduceIte, reduceCtorEq, tab1, fi23_0, fi23_1, ti2, tab0]; rfl) ?_; (first | (refine hK1 _ ?_; clear hK1 K1) | (refine ⟨?_, hK1 _ ?_⟩ <;> clear hK1 K1; first | (· (simp; done)) | (· (simp +contextual; done)) | (· (simp +contextual; omega)) | (· grind) | skip))
  simp only [wps, endQ, resV, resVs, resV1, go_sem, Nat.reduceLeDiff, Nat.reducePow, Nat.reduceSub, Nat.reduceLT, Nat.reduceEqDiff, Nat.reduceAdd, Nat.reduceMul, ↓reduceIte, reduceCtorEq, tab1]
  (first | rw [V.bool.injEq] | simp only [V.bool.injEq, true_and, and_true] | skip); rw [Bool.eq_iff_iff]; simp [spanQ, and_assoc]
end Go.Eng.Try
