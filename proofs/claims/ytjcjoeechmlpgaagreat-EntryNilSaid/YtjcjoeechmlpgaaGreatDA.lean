/- Contracts of chapter 42: small functions. -/
import Derived.Test.YtjcjoeechmlpgaaGreatCB
import Derived.Test.YtjcjoeechmlpgaaGreatBA
import Derived.Test.YtjcjoeechmlpgaaGreatGA
namespace Go.Eng.Tryz
open Go.Proofs
attribute [local go_sem] oss_nil_eq Int.toNat_natCast maxLen Nat.zero_le run step opv slotV opvs dstLt evalQ constV isA setD upd_app guardB List.getD_cons_zero List.getD_cons_succ List.getD_nil V.tag V.cells decide_true decide_false Bool.false_eq_true if_false if_true ne_eq Nat.one_ne_zero not_false_eq_true keyKind cellOk List.forall_mem_cons List.not_mem_nil false_implies true_and and_true implies_true forall_const bump addrAdd loadA loadV part opV binV eqlV eqOk pickV unV convV boundV fillV storeTo splice List.getElem?_cons_zero List.getElem?_cons_succ List.take_succ_cons List.take_zero List.drop_succ_cons List.drop_zero List.length_cons List.length_nil List.cons_append List.nil_append List.append_nil List.getElem_toArray List.getElem?_toArray List.size_toArray and_self eqV_tupl eqV_tupr fbt tbf beq_self_eq_true Bool.not_false Bool.not_true cond_true cond_false newVarW updH_self updH_updH isFuncFn runT stepT stepC isCallV callOf callV escL memN runW stepW stepCW runD stepD safeB slots ownS stepOwn reads runM stepM emptyH softEq V.soft softs readSl chunks partsV delKV slice0V stepE runE
set_option linter.unusedSimpArgs false
set_option linter.unusedVariables false

def cnt (n : Int) : Bool := decide (0 ≤ n) && decide (n ≤ 1099511627776)

theorem s76 (n : Int) (M : Heap) : Pure Tryz.prog 76 [.int .i64 n] M (.bool (cnt n)) := by
  refine Spec.strip (fun _ => false) ok76 (by simp) ?_
  unfold c76
  refine wps_seq_k fun K1 hK1 => wps_reg ?_; simp only [go_sem, Nat.reduceLeDiff, Nat.reducePow, Nat.reduceSub, Nat.reduceLT, Nat.reduceEqDiff, Nat.reduceAdd, Nat.reduceMul, ↓reduceIte, reduceCtorEq]; (first | (refine hK1 _ ?_; clear hK1 K1) | (refine ⟨?_, hK1 _ ?_⟩ <;> clear hK1 K1; first | (· (simp; done)) | (· (simp +contextual; done)) | (· (simp +contextual; omega)) | (· grind) | skip))
  refine wps_seq_k fun K1 hK1 => wps_reg ?_; simp only [go_sem, Nat.reduceLeDiff, Nat.reducePow, Nat.reduceSub, Nat.reduceLT, Nat.reduceEqDiff, Nat.reduceAdd, Nat.reduceMul, ↓reduceIte, reduceCtorEq, und2]; (first | (refine hK1 _ ?_; clear hK1 K1) | (refine ⟨?_, hK1 _ ?_⟩ <;> clear hK1 K1; first | (· (simp; done)) | (· (simp +contextual; done)) | (· (simp +contextual; omega)) | (· grind) | skip))
  simp only [wps, endQ, resV, resVs, resV1, go_sem, Nat.reduceLeDiff, Nat.reducePow, Nat.reduceSub, Nat.reduceLT, Nat.reduceEqDiff, Nat.reduceAdd, Nat.reduceMul, ↓reduceIte, reduceCtorEq]
  simp [cnt, GE.ge]

def held (n : Int) : Int := min (max n 0) 1099511627776

theorem sl_refs (M : Heap) (ks : List B) : refsOkss M (sl ks) :=
  refsOkss_of fun e he => by
    simp only [sl, List.mem_map] at he
    obtain ⟨k, _, rfl⟩ := he
    simp [refsOks, refsOk]

theorem eqV8_lst (P : Program) (t : TypeId) (es : List (List V)) (y : V) : eqV P 8 t (.lst es) y = none := by
  unfold eqV
  cases P.underlying t with
  | none => rfl
  | some d => cases d <;> cases y <;> rfl

theorem own_slot {M : Heap} {sz : Nat} {v : V} {es : List (List V)} (h : Own M sz v es) (t : Nat) : slotV t v = some (True, v) := by
  rcases h.2 with ⟨rfl, _⟩ | ⟨rfl, _⟩ | ⟨o, cap, cs, rfl, _⟩ <;> rfl

theorem own_tag {M : Heap} {sz : Nat} {v : V} {es : List (List V)} (h : Own M sz v es) : v.tag < 22 := by
  rcases h.2 with ⟨rfl, _⟩ | ⟨rfl, _⟩ | ⟨o, cap, cs, rfl, _⟩ <;> simp [V.tag]

theorem s90 (ks : List B) (hb : ks.length * 16 ≤ 140737488355328) (M : Heap) : Pure Tryz.prog 90 [.lst (sl ks)] M (.lst (sl ks)) := by
  refine Spec.own (sz := 1) (es := sl ks) (Spec.strip (escL [5]) ok90 (by simp) ?_) (sl_refs _ _)
  unfold c90
  refine wps_seq_k fun K1 hK1 => wps_reg ?_; simp only [go_sem, Nat.reduceLeDiff, Nat.reducePow, Nat.reduceSub, Nat.reduceLT, Nat.reduceEqDiff, Nat.reduceAdd, Nat.reduceMul, ↓reduceIte, reduceCtorEq]; (first | (refine hK1 _ ?_; clear hK1 K1) | (refine ⟨?_, hK1 _ ?_⟩ <;> clear hK1 K1; first | (· (simp; done)) | (· (simp +contextual; done)) | (· (simp +contextual; omega)) | (· grind) | skip))
  refine wps_seq_k fun K2 hK2 => ?_
  refine wps_seq_k fun K1 hK1 => wps_reg ?_; simp only [go_sem, Nat.reduceLeDiff, Nat.reducePow, Nat.reduceSub, Nat.reduceLT, Nat.reduceEqDiff, Nat.reduceAdd, Nat.reduceMul, ↓reduceIte, reduceCtorEq, eqV8_lst]; (first | (with_reducible refine oss_obl ?_ ?_; first | (· (simp; done)) | (· (simp +contextual; done)) | (· (simp +contextual; omega)) | (· grind) | skip) | skip)
  refine oss_op rfl rfl ?_; simp only [opw, SO.oper, go_sem, Nat.reduceLeDiff, Nat.reducePow, Nat.reduceSub, Nat.reduceLT, Nat.reduceEqDiff, Nat.reduceAdd, Nat.reduceMul, ↓reduceIte, reduceCtorEq, und37, eqV8_lst, softEq]
  intro b hne
  refine hK1 _ ?_; clear hK1 K1
  refine wps_cond (by simp only [go_sem, Nat.reduceLeDiff, Nat.reducePow, Nat.reduceSub, Nat.reduceLT, Nat.reduceEqDiff, Nat.reduceAdd, Nat.reduceMul, ↓reduceIte, reduceCtorEq]; rfl) (by simp) (fun hb => ?_) (fun hb => ?_)
  · subst hb
    have h0 : sl ks = [] := by
      cases h : sl ks with
      | nil => rfl
      | cons a l => rw [h] at hne; simp at hne
    refine wps_seq_k fun K1 hK1 => wps_reg ?_; simp only [go_sem, Nat.reduceLeDiff, Nat.reducePow, Nat.reduceSub, Nat.reduceLT, Nat.reduceEqDiff, Nat.reduceAdd, Nat.reduceMul, ↓reduceIte, reduceCtorEq]; (first | (refine hK1 _ ?_; clear hK1 K1) | (refine ⟨?_, hK1 _ ?_⟩ <;> clear hK1 K1; first | (· (simp; done)) | (· (simp +contextual; done)) | (· (simp +contextual; omega)) | (· grind) | skip))
    simp only [wps, endQ, resV, resVs, resV1, go_sem, Nat.reduceLeDiff, Nat.reducePow, Nat.reduceSub, Nat.reduceLT, Nat.reduceEqDiff, Nat.reduceAdd, Nat.reduceMul, ↓reduceIte, reduceCtorEq]
    rw [h0]
    exact ⟨Own.nils M 1, by simp [V.obj], fun o x h => h⟩
  · refine hK2 _ ?_; clear hK2 K2
    refine wps_seq_k fun K1 hK1 => wps_reg ?_; simp only [go_sem, Nat.reduceLeDiff, Nat.reducePow, Nat.reduceSub, Nat.reduceLT, Nat.reduceEqDiff, Nat.reduceAdd, Nat.reduceMul, ↓reduceIte, reduceCtorEq]; (first | (with_reducible refine oss_obl ?_ ?_; first | (· (simp; done)) | (· (simp +contextual; done)) | (· (simp +contextual; omega)) | (· grind) | skip) | skip)
    refine oss_op rfl rfl ?_; simp only [opw, SO.oper, go_sem, Nat.reduceLeDiff, Nat.reducePow, Nat.reduceSub, Nat.reduceLT, Nat.reduceEqDiff, Nat.reduceAdd, Nat.reduceMul, ↓reduceIte, reduceCtorEq, und37, ti9, zero9]
    refine ⟨by simp, fun ob hob => ?_⟩
    refine oss_run ?_; simp only [go_sem, Nat.reduceLeDiff, Nat.reducePow, Nat.reduceSub, Nat.reduceLT, Nat.reduceEqDiff, Nat.reduceAdd, Nat.reduceMul, ↓reduceIte, reduceCtorEq]
    refine oss_append (by rfl) und37 el9 (by simp only [go_sem, Nat.reduceLeDiff, Nat.reducePow, Nat.reduceSub, Nat.reduceLT, Nat.reduceEqDiff, Nat.reduceAdd, Nat.reduceMul, ↓reduceIte, reduceCtorEq]; rfl) (by simp) (by simp only [go_sem, Nat.reduceLeDiff, Nat.reducePow, Nat.reduceSub, Nat.reduceLT, Nat.reduceEqDiff, Nat.reduceAdd, Nat.reduceMul, ↓reduceIte, reduceCtorEq]; rfl) (by simp) (by simp only [go_sem, Nat.reduceLeDiff, Nat.reducePow, Nat.reduceSub, Nat.reduceLT, Nat.reduceEqDiff, Nat.reduceAdd, Nat.reduceMul, ↓reduceIte, reduceCtorEq]; rfl) (by simp [sl]) (es := []) ?_ (by simp [sl, go_sem, Nat.reduceLeDiff, Nat.reducePow, Nat.reduceSub, Nat.reduceLT, Nat.reduceEqDiff, Nat.reduceAdd, Nat.reduceMul, ↓reduceIte, reduceCtorEq]) (by simp [sl, maxLen]; omega) (by simp [sl]; omega) ?_
    · exact ⟨by simp, .inr (.inr ⟨ob, 0, [], rfl, by simp [updH], by simp, by simp, by simp⟩)⟩
    intro v' M' h1 h2 h3
    have hkeep := Keeps.own (M0 := M) (M := updH M ob (.cells [])) (sv := .sli ob 0 0 0) (fun o x h => by
      simp only [updH]; split
      · rename_i e; rw [e, hob] at h; cases h
      · exact h) (fun k hk => by simp only [V.obj, Option.some.injEq] at hk; rw [← hk]; exact hob) h2 h3
    refine oss_run ?_; simp only [go_sem, Nat.reduceLeDiff, Nat.reducePow, Nat.reduceSub, Nat.reduceLT, Nat.reduceEqDiff, Nat.reduceAdd, Nat.reduceMul, ↓reduceIte, reduceCtorEq, own_slot h1]
    refine hK1 _ ?_; clear hK1 K1
    simp only [wps, endQ, resV, resVs, resV1, go_sem, Nat.reduceLeDiff, Nat.reducePow, Nat.reduceSub, Nat.reduceLT, Nat.reduceEqDiff, Nat.reduceAdd, Nat.reduceMul, ↓reduceIte, reduceCtorEq, own_slot h1]
    exact ⟨own_tag h1, h1, hkeep.2, hkeep.1⟩

def Keys.ok (ks : List B) : Prop := ks.length * 16 ≤ 140737488355328

def tabC : Tab := fun M id vs => match id, vs with
  | 76, [.int .i64 n] => some (True, .bool (cnt n))
  | _, _ => none
theorem tabC_ok : TabOk Tryz.prog tabC := by
  intro M id vs g r h hg
  unfold tabC at h
  split at h <;> (try simp only [Option.some.injEq, Prod.mk.injEq, reduceCtorEq] at h) <;> (try (obtain ⟨rfl, rfl⟩ := h))
  · exact s76 _ _

theorem s77 (a b c : Int) (M : Heap) : Pure Tryz.prog 77 [.agg [.int .i64 a, .int .i64 b, .int .i64 c]] M (.bool (cnt a && (cnt b && cnt c))) := by
  refine Spec.strip (fun _ => false) ok77 (by simp) ?_
  unfold c77
  refine wps_seq_k fun K1 hK1 => wps_regT tabC tabC_ok ?_; simp only [go_sem, Nat.reduceLeDiff, Nat.reducePow, Nat.reduceSub, Nat.reduceLT, Nat.reduceEqDiff, Nat.reduceAdd, Nat.reduceMul, ↓reduceIte, reduceCtorEq, tabC]; (first | (refine hK1 _ ?_; clear hK1 K1) | (refine ⟨?_, hK1 _ ?_⟩ <;> clear hK1 K1; first | (· (simp; done)) | (· (simp +contextual; done)) | (· (simp +contextual; omega)) | (· grind) | skip))
  refine wps_seq_k fun K1 hK1 => wps_regT tabC tabC_ok ?_; simp only [go_sem, Nat.reduceLeDiff, Nat.reducePow, Nat.reduceSub, Nat.reduceLT, Nat.reduceEqDiff, Nat.reduceAdd, Nat.reduceMul, ↓reduceIte, reduceCtorEq, tabC, fi74_0, fi74_1, fi74_2, ti2]; (first | (refine hK1 _ ?_; clear hK1 K1) | (refine ⟨?_, hK1 _ ?_⟩ <;> clear hK1 K1; first | (· (simp; done)) | (· (simp +contextual; done)) | (· (simp +contextual; omega)) | (· grind) | skip))
  simp only [wps, endQ, resV, resVs, resV1, go_sem, Nat.reduceLeDiff, Nat.reducePow, Nat.reduceSub, Nat.reduceLT, Nat.reduceEqDiff, Nat.reduceAdd, Nat.reduceMul, ↓reduceIte, reduceCtorEq, tabC]
  cases cnt a <;> cases cnt b <;> simp

theorem s68 (n : Int) (M : Heap) : Pure Tryz.prog 68 [.int .i64 n] M (.int .i64 (held n)) := by
  refine Spec.strip (fun _ => false) ok68 (by simp) ?_
  unfold c68
  refine wps_seq_k fun K1 hK1 => wps_reg ?_; simp only [go_sem, Nat.reduceLeDiff, Nat.reducePow, Nat.reduceSub, Nat.reduceLT, Nat.reduceEqDiff, Nat.reduceAdd, Nat.reduceMul, ↓reduceIte, reduceCtorEq]; (first | (refine hK1 _ ?_; clear hK1 K1) | (refine ⟨?_, hK1 _ ?_⟩ <;> clear hK1 K1; first | (· (simp; done)) | (· (simp +contextual; done)) | (· (simp +contextual; omega)) | (· grind) | skip))
  refine wps_seq_k fun K1 hK1 => wps_reg ?_; simp only [go_sem, Nat.reduceLeDiff, Nat.reducePow, Nat.reduceSub, Nat.reduceLT, Nat.reduceEqDiff, Nat.reduceAdd, Nat.reduceMul, ↓reduceIte, reduceCtorEq, und2, mxV]; (first | (refine hK1 _ ?_; clear hK1 K1) | (refine ⟨?_, hK1 _ ?_⟩ <;> clear hK1 K1; first | (· (simp; done)) | (· (simp +contextual; done)) | (· (simp +contextual; omega)) | (· grind) | skip))
  simp only [wps, endQ, resV, resVs, resV1, go_sem, Nat.reduceLeDiff, Nat.reducePow, Nat.reduceSub, Nat.reduceLT, Nat.reduceEqDiff, Nat.reduceAdd, Nat.reduceMul, ↓reduceIte, reduceCtorEq]
  simp only [true_and, and_true, V.int.injEq, held]
  simp only [Int.max_def, Int.min_def]
  grind

def saidQ (tick age : Int) : Int := max (held tick - held age) 0

def tabS : Tab := fun M id vs => match id, vs with
  | 68, [.int .i64 n] => some (True, .int .i64 (held n))
  | _, _ => none
theorem tabS_ok : TabOk Tryz.prog tabS := by
  intro M id vs g r h hg
  unfold tabS at h
  split at h <;> (try simp only [Option.some.injEq, Prod.mk.injEq, reduceCtorEq] at h) <;> (try (obtain ⟨rfl, rfl⟩ := h))
  · exact s68 _ _

theorem held_bd (n : Int) : 0 ≤ held n ∧ held n ≤ 1099511627776 := by
  simp only [held, Int.max_def, Int.min_def]; grind

theorem s78 (a b : Int) (M : Heap) : Pure Tryz.prog 78 [.int .i64 a, .int .i64 b] M (.int .i64 (saidQ a b)) := by
  refine Spec.strip (fun _ => false) ok78 (by simp) ?_
  unfold c78
  have h1 := held_bd a
  have h2 := held_bd b
  refine wps_seq_k fun K1 hK1 => wps_regT tabS tabS_ok ?_; simp only [go_sem, Nat.reduceLeDiff, Nat.reducePow, Nat.reduceSub, Nat.reduceLT, Nat.reduceEqDiff, Nat.reduceAdd, Nat.reduceMul, ↓reduceIte, reduceCtorEq, tabS]; (first | (refine hK1 _ ?_; clear hK1 K1) | (refine ⟨?_, hK1 _ ?_⟩ <;> clear hK1 K1; first | (· (simp; done)) | (· (simp +contextual; done)) | (· (simp +contextual; omega)) | (· grind) | skip))
  refine wps_seq_k fun K1 hK1 => wps_regT tabS tabS_ok ?_; simp only [go_sem, Nat.reduceLeDiff, Nat.reducePow, Nat.reduceSub, Nat.reduceLT, Nat.reduceEqDiff, Nat.reduceAdd, Nat.reduceMul, ↓reduceIte, reduceCtorEq, tabS, und2, mxV]; (first | (refine hK1 _ ?_; clear hK1 K1) | (refine ⟨?_, hK1 _ ?_⟩ <;> clear hK1 K1; first | (· (simp; done)) | (· (simp +contextual; done)) | (· (simp +contextual; omega)) | (· grind) | skip))
  simp only [wps, endQ, resV, resVs, resV1, go_sem, Nat.reduceLeDiff, Nat.reducePow, Nat.reduceSub, Nat.reduceLT, Nat.reduceEqDiff, Nat.reduceAdd, Nat.reduceMul, ↓reduceIte, reduceCtorEq, tabS]
  simp only [true_and, and_true, V.int.injEq, saidQ]
  rw [IntWalk.i64_in _ (by omega)]
  simp only [Int.max_def]
  grind

abbrev metaV (m : MetaD) : V := .agg [.str m.t, .bool m.w, .int .i64 m.mod, .int .i64 m.len, .int .i64 m.have_, .int .i64 m.fresh, .int .i64 m.while_, .int .i64 m.err, .lst (sl m.keys), .str m.ten, .bool m.keep]

theorem s40 (m : MetaD) (hk : m.keys.length * 16 ≤ 140737488355328) (M : Heap) : Pure Tryz.prog 40 [metaV m] M (metaV m) := by
  refine Spec.strip (fun _ => false) ok40 (by simp) ?_
  unfold c40
  refine wps_seq_k fun K1 hK1 => wps_reg ?_; simp only [go_sem, Nat.reduceLeDiff, Nat.reducePow, Nat.reduceSub, Nat.reduceLT, Nat.reduceEqDiff, Nat.reduceAdd, Nat.reduceMul, ↓reduceIte, reduceCtorEq, zero39]; (first | (refine hK1 _ ?_; clear hK1 K1) | (refine ⟨?_, hK1 _ ?_⟩ <;> clear hK1 K1; first | (· (simp; done)) | (· (simp +contextual; done)) | (· (simp +contextual; omega)) | (· grind) | skip))
  refine wps_seq_k fun K2 hK2 => ?_
  refine wps_reg ?_; simp only [go_sem, Nat.reduceLeDiff, Nat.reducePow, Nat.reduceSub, Nat.reduceLT, Nat.reduceEqDiff, Nat.reduceAdd, Nat.reduceMul, ↓reduceIte, reduceCtorEq, fi39_7, ti37]; (first | (with_reducible refine oss_obl ?_ ?_; first | (· (simp; done)) | (· (simp +contextual; done)) | (· (simp +contextual; omega)) | (· grind) | skip) | skip)
  refine oss_call rfl (by simp only [go_sem, Nat.reduceLeDiff, Nat.reducePow, Nat.reduceSub, Nat.reduceLT, Nat.reduceEqDiff, Nat.reduceAdd, Nat.reduceMul, ↓reduceIte, reduceCtorEq]; rfl) (by simp) (s90 _ hk _) ?_; rintro _ _ ⟨rfl, rfl⟩
  refine oss_run ?_; simp only [go_sem, Nat.reduceLeDiff, Nat.reducePow, Nat.reduceSub, Nat.reduceLT, Nat.reduceEqDiff, Nat.reduceAdd, Nat.reduceMul, ↓reduceIte, reduceCtorEq, fi39_7, ti37]
  refine ⟨rfl, hK2 _ ?_⟩; clear hK2 K2
  refine wps_seq_k fun K1 hK1 => wps_reg ?_; simp only [go_sem, Nat.reduceLeDiff, Nat.reducePow, Nat.reduceSub, Nat.reduceLT, Nat.reduceEqDiff, Nat.reduceAdd, Nat.reduceMul, ↓reduceIte, reduceCtorEq, ti39]; (first | (refine hK1 _ ?_; clear hK1 K1) | (refine ⟨?_, hK1 _ ?_⟩ <;> clear hK1 K1; first | (· (simp; done)) | (· (simp +contextual; done)) | (· (simp +contextual; omega)) | (· grind) | skip))
  simp only [wps, endQ, resV, resVs, resV1, go_sem, Nat.reduceLeDiff, Nat.reducePow, Nat.reduceSub, Nat.reduceLT, Nat.reduceEqDiff, Nat.reduceAdd, Nat.reduceMul, ↓reduceIte, reduceCtorEq, ti39]

theorem s19 (a b c : Int) (M : Heap) : Pure Tryz.prog 19 [.agg [.int .i64 a, .int .i64 b, .int .i64 c]] M (.agg [.int .i64 a, .int .i64 b, .int .i64 c]) := by
  refine Spec.strip (fun _ => false) ok19 (by simp) ?_
  unfold c19
  refine wps_seq_k fun K1 hK1 => wps_reg ?_; simp only [go_sem, Nat.reduceLeDiff, Nat.reducePow, Nat.reduceSub, Nat.reduceLT, Nat.reduceEqDiff, Nat.reduceAdd, Nat.reduceMul, ↓reduceIte, reduceCtorEq, zero74]; (first | (refine hK1 _ ?_; clear hK1 K1) | (refine ⟨?_, hK1 _ ?_⟩ <;> clear hK1 K1; first | (· (simp; done)) | (· (simp +contextual; done)) | (· (simp +contextual; omega)) | (· grind) | skip))
  refine wps_seq_k fun K1 hK1 => wps_reg ?_; simp only [go_sem, Nat.reduceLeDiff, Nat.reducePow, Nat.reduceSub, Nat.reduceLT, Nat.reduceEqDiff, Nat.reduceAdd, Nat.reduceMul, ↓reduceIte, reduceCtorEq, fi45_0, fi45_1, fi45_2, ti2, ti74, bs74, fi74_0, fi74_1, fi74_2]; (first | (refine hK1 _ ?_; clear hK1 K1) | (refine ⟨?_, hK1 _ ?_⟩ <;> clear hK1 K1; first | (· (simp; done)) | (· (simp +contextual; done)) | (· (simp +contextual; omega)) | (· grind) | skip))
  simp only [wps, endQ, resV, resVs, resV1, go_sem, Nat.reduceLeDiff, Nat.reducePow, Nat.reduceSub, Nat.reduceLT, Nat.reduceEqDiff, Nat.reduceAdd, Nat.reduceMul, ↓reduceIte, reduceCtorEq, ti74]

theorem s36 (t : B) (M : Heap) : Pure Tryz.prog 36 [.str t] M (.agg [.str t, .bool false, .int .i64 (-1), .int .i64 4, .int .i64 4, .int .i64 9, .int .i64 0, .int .i64 0, .nils, .str [], .bool true]) := by
  refine Spec.strip (fun _ => false) ok36 (by simp) ?_
  unfold c36
  refine wps_seq_k fun K1 hK1 => wps_reg ?_; simp only [go_sem, Nat.reduceLeDiff, Nat.reducePow, Nat.reduceSub, Nat.reduceLT, Nat.reduceEqDiff, Nat.reduceAdd, Nat.reduceMul, ↓reduceIte, reduceCtorEq, zero39]; (first | (refine hK1 _ ?_; clear hK1 K1) | (refine ⟨?_, hK1 _ ?_⟩ <;> clear hK1 K1; first | (· (simp; done)) | (· (simp +contextual; done)) | (· (simp +contextual; omega)) | (· grind) | skip))
  refine wps_seq_k fun K1 hK1 => wps_reg ?_; simp only [go_sem, Nat.reduceLeDiff, Nat.reducePow, Nat.reduceSub, Nat.reduceLT, Nat.reduceEqDiff, Nat.reduceAdd, Nat.reduceMul, ↓reduceIte, reduceCtorEq, ti39, bs39, bs36, fi36_0, fi39_0, fi39_1, fi39_2, fi39_3, fi39_4, fi39_5, fi39_6, fi39_7, fi39_8, fi39_9]; (first | (refine hK1 _ ?_; clear hK1 K1) | (refine ⟨?_, hK1 _ ?_⟩ <;> clear hK1 K1; first | (· (simp; done)) | (· (simp +contextual; done)) | (· (simp +contextual; omega)) | (· grind) | skip))
  simp only [wps, endQ, resV, resVs, resV1, go_sem, Nat.reduceLeDiff, Nat.reducePow, Nat.reduceSub, Nat.reduceLT, Nat.reduceEqDiff, Nat.reduceAdd, Nat.reduceMul, ↓reduceIte, reduceCtorEq, ti39]

structure EntD where
  (id : Int) (obj : B) (m : MetaD) (said moment gen : Int) (turned : Bool)
def entL (e : EntD) : List V := [.int .i64 e.id, .str e.obj, .str e.m.t, .bool e.m.w, .int .i64 e.m.mod, .int .i64 e.m.len, .int .i64 e.m.have_, .int .i64 e.m.fresh, .int .i64 e.m.while_, .int .i64 e.m.err, .lst (sl e.m.keys), .str e.m.ten, .bool e.m.keep, .int .i64 e.said, .int .i64 e.moment, .int .i64 e.gen, .bool e.turned]
def knownL (e : EntD) (has : V) : List V := [.int .i64 e.id, .str e.obj, .str e.m.t, .bool e.m.w, .int .i64 e.m.mod, .int .i64 e.m.len, .int .i64 e.m.have_, .int .i64 e.m.fresh, .int .i64 e.m.while_, .int .i64 e.m.err, .lst (sl e.m.keys), .str e.m.ten, .bool e.m.keep, .int .i64 e.said, .int .i64 e.moment, .int .i64 e.gen, .bool e.turned, has]

theorem s83 (o : Nat) (tick a b c : Int) (e : EntD) (has : V) (M : Heap) (hM : M o = some (.cells (knownL e has))) :
    Spec Tryz.prog 83 [.ptr o 0, .int .i64 tick, .agg [.int .i64 a, .int .i64 b, .int .i64 c]] M fun r M' => r = .tup [] ∧ M' = if b ≥ e.moment then updH M o (.cells (knownL { e with said := tick, moment := b, gen := c } has)) else M := by
  refine Spec.strip (fun _ => false) ok83 (by simp) ?_
  unfold c83
  simp only [knownL] at hM ⊢
  refine wps_seq_k fun K1 hK1 => wps_regT tabC tabC_ok ?_; simp only [go_sem, Nat.reduceLeDiff, Nat.reducePow, Nat.reduceSub, Nat.reduceLT, Nat.reduceEqDiff, Nat.reduceAdd, Nat.reduceMul, ↓reduceIte, reduceCtorEq, tabC]; (first | (refine hK1 _ ?_; clear hK1 K1) | (refine ⟨?_, hK1 _ ?_⟩ <;> clear hK1 K1; first | (· (simp; done)) | (· (simp +contextual; done)) | (· (simp +contextual; omega)) | (· grind) | skip))
  refine wps_seq_k fun K1 hK1 => wps_drawD tabC tabC_ok (by kernel_rfl) rfl (by kernel_rfl) (by simp only [go_sem, Nat.reduceLeDiff, Nat.reducePow, Nat.reduceSub, Nat.reduceLT, Nat.reduceEqDiff, Nat.reduceAdd, Nat.reduceMul, ↓reduceIte, reduceCtorEq, tabC, fi74_1, fi110_0, fi57_4, ti2, und2, hM]; rfl) ?_; (first | (refine hK1 _ ?_; clear hK1 K1) | (refine ⟨?_, hK1 _ ?_⟩ <;> clear hK1 K1; first | (· (simp; done)) | (· (simp +contextual; done)) | (· (simp +contextual; omega)) | (· grind) | skip))
  refine wps_cond (by simp only [go_sem, Nat.reduceLeDiff, Nat.reducePow, Nat.reduceSub, Nat.reduceLT, Nat.reduceEqDiff, Nat.reduceAdd, Nat.reduceMul, ↓reduceIte, reduceCtorEq, tabC]; rfl) (by simp) (fun hb => ?_) (fun hb => ?_)
  · refine wps_drawM tabC noW [] tabC_ok noW_ok (by kernel_rfl) rfl (by kernel_rfl) (by kernel_rfl) (by simp only [noW, go_sem, Nat.reduceLeDiff, Nat.reducePow, Nat.reduceSub, Nat.reduceLT, Nat.reduceEqDiff, Nat.reduceAdd, Nat.reduceMul, ↓reduceIte, reduceCtorEq, tabC, fi74_1, fi74_2, fi110_0, fi57_3, fi57_4, fi57_5, ti2, und2, hM]; rfl) ?_; (refine ⟨?_, ?_⟩; first | (· (simp; done)) | (· (simp +contextual; done)) | (· grind) | skip)
    simp only [wps, endQ, resV, resVs, resV1, go_sem, Nat.reduceLeDiff, Nat.reducePow, Nat.reduceSub, Nat.reduceLT, Nat.reduceEqDiff, Nat.reduceAdd, Nat.reduceMul, ↓reduceIte, reduceCtorEq, tabC]
    have hb' : b ≥ e.moment := by simpa using hb
    simp [hb']
  · simp only [wps, endQ, resV, resVs, resV1, go_sem, Nat.reduceLeDiff, Nat.reducePow, Nat.reduceSub, Nat.reduceLT, Nat.reduceEqDiff, Nat.reduceAdd, Nat.reduceMul, ↓reduceIte, reduceCtorEq, tabC]
    have hb' : ¬ b ≥ e.moment := by simpa using hb
    simp [hb']

end Go.Eng.Tryz

/- Contracts of chapter 42: the table's newest moments. -/
namespace Go.Eng.Tryz
open Go.Proofs
attribute [local go_sem] oss_nil_eq Int.toNat_natCast maxLen Nat.zero_le run step opv slotV opvs dstLt evalQ constV isA setD upd_app guardB List.getD_cons_zero List.getD_cons_succ List.getD_nil V.tag V.cells decide_true decide_false Bool.false_eq_true if_false if_true ne_eq Nat.one_ne_zero not_false_eq_true keyKind cellOk List.forall_mem_cons List.not_mem_nil false_implies true_and and_true implies_true forall_const bump addrAdd loadA loadV part opV binV eqlV eqOk pickV unV convV boundV fillV storeTo splice List.getElem?_cons_zero List.getElem?_cons_succ List.take_succ_cons List.take_zero List.drop_succ_cons List.drop_zero List.length_cons List.length_nil List.cons_append List.nil_append List.append_nil List.getElem_toArray List.getElem?_toArray List.size_toArray and_self eqV_tupl eqV_tupr fbt tbf beq_self_eq_true Bool.not_false Bool.not_true cond_true cond_false newVarW updH_self updH_updH isFuncFn runT stepT stepC isCallV callOf callV escL memN runW stepW stepCW runD stepD safeB slots ownS stepOwn reads runM stepM emptyH softEq V.soft softs readSl chunks partsV delKV slice0V stepE runE
set_option linter.unusedSimpArgs false
set_option linter.unusedVariables false

abbrev nV (p : Int × Int) : V := .agg [.int .i64 p.1, .int .i64 p.2]
def newQ (N : List (B × Int × Int)) (obj : B) : Int × Int := (N.lookup obj).getD (0, 0)

theorem s65 (ot ol on : Nat) (next : Int) (N : List (B × Int × Int)) (e : EntD) (M : Heap) (hT : M ot = some (.cells [.map ol, .map on, .int .i64 next])) (hN : M on = some (.map (strKV nV N))) :
    Pure Tryz.prog 65 [.ptr ot 0, .agg (entL e)] M (.bool (!((newQ N e.obj).2 == e.id))) := by
  refine Spec.strip (fun _ => false) ok65 (by simp) ?_
  unfold c65
  simp only [entL]
  refine wps_seq_k fun K1 hK1 => wps_regT tabC tabC_ok ?_; simp only [go_sem, Nat.reduceLeDiff, Nat.reducePow, Nat.reduceSub, Nat.reduceLT, Nat.reduceEqDiff, Nat.reduceAdd, Nat.reduceMul, ↓reduceIte, reduceCtorEq, tabC]; (first | (refine hK1 _ ?_; clear hK1 K1) | (refine ⟨?_, hK1 _ ?_⟩ <;> clear hK1 K1; first | (· (simp; done)) | (· (simp +contextual; done)) | (· (simp +contextual; omega)) | (· grind) | skip))
  cases hl : N.lookup e.obj with
  | none =>
    have hk : ∀ ok, lookupV Tryz.prog M 105 (.map on) (.str e.obj) ok = _ := fun ok => look_str_none und105 und9 zero112 hN hl
    refine wps_seq_k fun K1 hK1 => wps_drawD tabC tabC_ok (by kernel_rfl) rfl (by kernel_rfl) (by simp only [go_sem, Nat.reduceLeDiff, Nat.reducePow, Nat.reduceSub, Nat.reduceLT, Nat.reduceEqDiff, Nat.reduceAdd, Nat.reduceMul, ↓reduceIte, reduceCtorEq, tabC, fi107_1, fi57_0, fi57_1, fi112_1, ti105, ti2, ti9, und2, hT, hk]; rfl) ?_; (first | (refine hK1 _ ?_; clear hK1 K1) | (refine ⟨?_, hK1 _ ?_⟩ <;> clear hK1 K1; first | (· (simp; done)) | (· (simp +contextual; done)) | (· (simp +contextual; omega)) | (· grind) | skip))
    simp only [wps, endQ, resV, resVs, resV1, go_sem, Nat.reduceLeDiff, Nat.reducePow, Nat.reduceSub, Nat.reduceLT, Nat.reduceEqDiff, Nat.reduceAdd, Nat.reduceMul, ↓reduceIte, reduceCtorEq, tabC]
    simp [newQ, hl, bne]
  | some p =>
    have hk : ∀ ok, lookupV Tryz.prog M 105 (.map on) (.str e.obj) ok = _ := fun ok => look_str_some und105 und9 hN hl
    refine wps_seq_k fun K1 hK1 => wps_drawD tabC tabC_ok (by kernel_rfl) rfl (by kernel_rfl) (by simp only [go_sem, Nat.reduceLeDiff, Nat.reducePow, Nat.reduceSub, Nat.reduceLT, Nat.reduceEqDiff, Nat.reduceAdd, Nat.reduceMul, ↓reduceIte, reduceCtorEq, tabC, fi107_1, fi57_0, fi57_1, fi112_1, ti105, ti2, ti9, und2, hT, hk]; rfl) ?_; (first | (refine hK1 _ ?_; clear hK1 K1) | (refine ⟨?_, hK1 _ ?_⟩ <;> clear hK1 K1; first | (· (simp; done)) | (· (simp +contextual; done)) | (· (simp +contextual; omega)) | (· grind) | skip))
    simp only [wps, endQ, resV, resVs, resV1, go_sem, Nat.reduceLeDiff, Nat.reducePow, Nat.reduceSub, Nat.reduceLT, Nat.reduceEqDiff, Nat.reduceAdd, Nat.reduceMul, ↓reduceIte, reduceCtorEq, tabC]
    simp [newQ, hl, bne]

/-- What take does to the newest moments. -/
def takeQ (N : List (B × Int × Int)) (obj : B) (id mom : Int) : List (B × Int × Int) :=
  match N.lookup obj with
  | none => putA obj (mom, id) N
  | some p => if p.1 ≤ mom then putA obj (mom, id) N else N

theorem s84 (ot ol on : Nat) (next : Int) (N : List (B × Int × Int)) (obj : B) (id a b c : Int) (M : Heap) (hT : M ot = some (.cells [.map ol, .map on, .int .i64 next])) (hN : M on = some (.map (strKV nV N))) :
    Spec Tryz.prog 84 [.ptr ot 0, .str obj, .int .i64 id, .agg [.int .i64 a, .int .i64 b, .int .i64 c]] M fun r M' => r = .tup [] ∧ (M' = updH M on (.map (strKV nV (takeQ N obj id b))) ∨ M' = M ∧ takeQ N obj id b = N) := by
  refine Spec.strip (fun _ => false) ok84 (by simp) ?_
  unfold c84
  have hs : setKV (.str obj) (.agg [.int .i64 b, .int .i64 id]) (strKV nV N) = some (strKV nV (putA obj (b, id) N)) := set_str (f := nV) obj (b, id) N
  refine wps_seq_k fun K1 hK1 => wps_regT tabC tabC_ok ?_; simp only [go_sem, Nat.reduceLeDiff, Nat.reducePow, Nat.reduceSub, Nat.reduceLT, Nat.reduceEqDiff, Nat.reduceAdd, Nat.reduceMul, ↓reduceIte, reduceCtorEq, tabC]; (first | (refine hK1 _ ?_; clear hK1 K1) | (refine ⟨?_, hK1 _ ?_⟩ <;> clear hK1 K1; first | (· (simp; done)) | (· (simp +contextual; done)) | (· (simp +contextual; omega)) | (· grind) | skip))
  cases hl : N.lookup obj with
  | none =>
    have hk : ∀ ok, lookupV Tryz.prog M 105 (.map on) (.str obj) ok = _ := fun ok => look_str_none und105 und9 zero112 hN hl
    refine wps_seq_k fun K1 hK1 => wps_regT tabC tabC_ok ?_; simp only [go_sem, Nat.reduceLeDiff, Nat.reducePow, Nat.reduceSub, Nat.reduceLT, Nat.reduceEqDiff, Nat.reduceAdd, Nat.reduceMul, ↓reduceIte, reduceCtorEq, tabC, fi107_1, ti105, ti112, zero112, hT, hk]; (first | (refine hK1 _ ?_; clear hK1 K1) | (refine ⟨?_, hK1 _ ?_⟩ <;> clear hK1 K1; first | (· (simp; done)) | (· (simp +contextual; done)) | (· (simp +contextual; omega)) | (· grind) | skip))
    refine wps_seq_k fun K1 hK1 => wps_regT tabC tabC_ok ?_; simp only [go_sem, Nat.reduceLeDiff, Nat.reducePow, Nat.reduceSub, Nat.reduceLT, Nat.reduceEqDiff, Nat.reduceAdd, Nat.reduceMul, ↓reduceIte, reduceCtorEq, tabC, fi74_1, fi112_0, ti2, und2]; (first | (refine hK1 _ ?_; clear hK1 K1) | (refine ⟨?_, hK1 _ ?_⟩ <;> clear hK1 K1; first | (· (simp; done)) | (· (simp +contextual; done)) | (· (simp +contextual; omega)) | (· grind) | skip))
    refine wps_cond (by simp only [go_sem, Nat.reduceLeDiff, Nat.reducePow, Nat.reduceSub, Nat.reduceLT, Nat.reduceEqDiff, Nat.reduceAdd, Nat.reduceMul, ↓reduceIte, reduceCtorEq, tabC]; rfl) (by simp) (fun hb => ?_) (fun hb => ?_)
    · refine wps_drawM tabC noW [3] tabC_ok noW_ok (by kernel_rfl) rfl (by kernel_rfl) (by kernel_rfl) (by simp only [noW, go_sem, Nat.reduceLeDiff, Nat.reducePow, Nat.reduceSub, Nat.reduceLT, Nat.reduceEqDiff, Nat.reduceAdd, Nat.reduceMul, ↓reduceIte, reduceCtorEq, tabC, fi107_1, fi74_1, bs112, fi112_0, fi112_1, ti105, ti2, und2, und105, und9, hT, hN, hs]; rfl) ?_; (refine ⟨?_, ?_⟩; first | (· (simp; done)) | (· (simp +contextual; done)) | (· grind) | skip)
      simp only [wps, endQ, resV, resVs, resV1, go_sem, Nat.reduceLeDiff, Nat.reducePow, Nat.reduceSub, Nat.reduceLT, Nat.reduceEqDiff, Nat.reduceAdd, Nat.reduceMul, ↓reduceIte, reduceCtorEq, tabC]
      simp [takeQ, hl]
    · simp at hb
  | some p =>
    have hk : ∀ ok, lookupV Tryz.prog M 105 (.map on) (.str obj) ok = _ := fun ok => look_str_some und105 und9 hN hl
    refine wps_seq_k fun K1 hK1 => wps_regT tabC tabC_ok ?_; simp only [go_sem, Nat.reduceLeDiff, Nat.reducePow, Nat.reduceSub, Nat.reduceLT, Nat.reduceEqDiff, Nat.reduceAdd, Nat.reduceMul, ↓reduceIte, reduceCtorEq, tabC, fi107_1, ti105, ti112, zero112, hT, hk]; (first | (refine hK1 _ ?_; clear hK1 K1) | (refine ⟨?_, hK1 _ ?_⟩ <;> clear hK1 K1; first | (· (simp; done)) | (· (simp +contextual; done)) | (· (simp +contextual; omega)) | (· grind) | skip))
    refine wps_seq_k fun K1 hK1 => wps_regT tabC tabC_ok ?_; simp only [go_sem, Nat.reduceLeDiff, Nat.reducePow, Nat.reduceSub, Nat.reduceLT, Nat.reduceEqDiff, Nat.reduceAdd, Nat.reduceMul, ↓reduceIte, reduceCtorEq, tabC, fi74_1, fi112_0, ti2, und2]; (first | (refine hK1 _ ?_; clear hK1 K1) | (refine ⟨?_, hK1 _ ?_⟩ <;> clear hK1 K1; first | (· (simp; done)) | (· (simp +contextual; done)) | (· (simp +contextual; omega)) | (· grind) | skip))
    refine wps_cond (by simp only [go_sem, Nat.reduceLeDiff, Nat.reducePow, Nat.reduceSub, Nat.reduceLT, Nat.reduceEqDiff, Nat.reduceAdd, Nat.reduceMul, ↓reduceIte, reduceCtorEq, tabC]; rfl) (by simp) (fun hb => ?_) (fun hb => ?_)
    · refine wps_drawM tabC noW [3] tabC_ok noW_ok (by kernel_rfl) rfl (by kernel_rfl) (by kernel_rfl) (by simp only [noW, go_sem, Nat.reduceLeDiff, Nat.reducePow, Nat.reduceSub, Nat.reduceLT, Nat.reduceEqDiff, Nat.reduceAdd, Nat.reduceMul, ↓reduceIte, reduceCtorEq, tabC, fi107_1, fi74_1, bs112, fi112_0, fi112_1, ti105, ti2, und2, und105, und9, hT, hN, hs]; rfl) ?_; (refine ⟨?_, ?_⟩; first | (· (simp; done)) | (· (simp +contextual; done)) | (· grind) | skip)
      simp only [wps, endQ, resV, resVs, resV1, go_sem, Nat.reduceLeDiff, Nat.reducePow, Nat.reduceSub, Nat.reduceLT, Nat.reduceEqDiff, Nat.reduceAdd, Nat.reduceMul, ↓reduceIte, reduceCtorEq, tabC]
      have hb' : p.1 ≤ b := by simpa using hb
      simp [takeQ, hl, hb']
    · simp only [wps, endQ, resV, resVs, resV1, go_sem, Nat.reduceLeDiff, Nat.reducePow, Nat.reduceSub, Nat.reduceLT, Nat.reduceEqDiff, Nat.reduceAdd, Nat.reduceMul, ↓reduceIte, reduceCtorEq, tabC]
      have hb' : ¬ p.1 ≤ b := by simpa using hb
      simp [takeQ, hl, hb']

theorem s25 (ot ol on : Nat) (next : Int) (N : List (B × Int × Int)) {α : Type} (f : α → V) (L : List (Int × α)) (hf : ∀ a, ∃ o k, f a = .ptr o k) (obj : B) (M : Heap) (hT : M ot = some (.cells [.map ol, .map on, .int .i64 next])) (hN : M on = some (.map (strKV nV N))) (hL : M ol = some (.map (intKV f L))) :
    Pure Tryz.prog 25 [.ptr ot 0, .str obj] M (if (L.lookup (newQ N obj).2).isSome then .tup [.int .i64 (newQ N obj).2, .bool true] else .tup [.int .i64 0, .bool false]) := by
  refine Spec.strip (fun _ => false) ok25 (by simp) ?_
  unfold c25
  refine wps_seq_k fun K1 hK1 => wps_regT tabC tabC_ok ?_; simp only [go_sem, Nat.reduceLeDiff, Nat.reducePow, Nat.reduceSub, Nat.reduceLT, Nat.reduceEqDiff, Nat.reduceAdd, Nat.reduceMul, ↓reduceIte, reduceCtorEq, tabC]; (first | (refine hK1 _ ?_; clear hK1 K1) | (refine ⟨?_, hK1 _ ?_⟩ <;> clear hK1 K1; first | (· (simp; done)) | (· (simp +contextual; done)) | (· (simp +contextual; omega)) | (· grind) | skip))
  refine wps_seq_k fun K2 hK2 => ?_
  refine wps_seq_k fun K1 hK1 => wps_regT tabC tabC_ok ?_; simp only [go_sem, Nat.reduceLeDiff, Nat.reducePow, Nat.reduceSub, Nat.reduceLT, Nat.reduceEqDiff, Nat.reduceAdd, Nat.reduceMul, ↓reduceIte, reduceCtorEq, tabC, eq25c]; (first | (refine hK1 _ ?_; clear hK1 K1) | (refine ⟨?_, hK1 _ ?_⟩ <;> clear hK1 K1; first | (· (simp; done)) | (· (simp +contextual; done)) | (· (simp +contextual; omega)) | (· grind) | skip))
  refine wps_cond (by simp only [go_sem, Nat.reduceLeDiff, Nat.reducePow, Nat.reduceSub, Nat.reduceLT, Nat.reduceEqDiff, Nat.reduceAdd, Nat.reduceMul, ↓reduceIte, reduceCtorEq, tabC]; rfl) (by simp) (fun hb => ?_) (fun hb => ?_)
  · simp at hb
  refine hK2 _ ?_; clear hK2 K2
  obtain ⟨q, hq⟩ : ∃ q, newQ N obj = q := ⟨_, rfl⟩
  have hk : lookupV Tryz.prog M 105 (.map on) (.str obj) false = some (nV q) := by
    cases hl : N.lookup obj with
    | none => rw [look_str_none und105 und9 zero112 hN hl]; simp [← hq, newQ, hl]
    | some p => rw [look_str_some und105 und9 hN hl]; simp [← hq, newQ, hl]
  rw [hq]
  refine wps_seq_k fun K1 hK1 => wps_regT tabC tabC_ok ?_; simp only [go_sem, Nat.reduceLeDiff, Nat.reducePow, Nat.reduceSub, Nat.reduceLT, Nat.reduceEqDiff, Nat.reduceAdd, Nat.reduceMul, ↓reduceIte, reduceCtorEq, tabC, fi107_1, ti105, ti112, zero112, hT, hk]; (first | (refine hK1 _ ?_; clear hK1 K1) | (refine ⟨?_, hK1 _ ?_⟩ <;> clear hK1 K1; first | (· (simp; done)) | (· (simp +contextual; done)) | (· (simp +contextual; omega)) | (· grind) | skip))
  cases hl : L.lookup q.2 with
  | none =>
    have hk : ∀ ok, lookupV Tryz.prog M 104 (.map ol) (.int .i64 q.2) ok = _ := fun ok => look_int_none und104 und2 zero103 hL hl
    refine wps_seq_k fun K2 hK2 => ?_
    refine wps_seq_k fun K1 hK1 => wps_drawD tabC tabC_ok (by kernel_rfl) rfl (by kernel_rfl) (by simp only [go_sem, Nat.reduceLeDiff, Nat.reducePow, Nat.reduceSub, Nat.reduceLT, Nat.reduceEqDiff, Nat.reduceAdd, Nat.reduceMul, ↓reduceIte, reduceCtorEq, tabC, fi107_0, fi112_1, ti104, ti2, und2, hT, hk]; rfl) ?_; (first | (refine hK1 _ ?_; clear hK1 K1) | (refine ⟨?_, hK1 _ ?_⟩ <;> clear hK1 K1; first | (· (simp; done)) | (· (simp +contextual; done)) | (· (simp +contextual; omega)) | (· grind) | skip))
    refine wps_seq_k fun K1 hK1 => wps_regT tabC tabC_ok ?_; simp only [go_sem, Nat.reduceLeDiff, Nat.reducePow, Nat.reduceSub, Nat.reduceLT, Nat.reduceEqDiff, Nat.reduceAdd, Nat.reduceMul, ↓reduceIte, reduceCtorEq, tabC]; (first | (refine hK1 _ ?_; clear hK1 K1) | (refine ⟨?_, hK1 _ ?_⟩ <;> clear hK1 K1; first | (· (simp; done)) | (· (simp +contextual; done)) | (· (simp +contextual; omega)) | (· grind) | skip))
    refine wps_cond (by simp only [go_sem, Nat.reduceLeDiff, Nat.reducePow, Nat.reduceSub, Nat.reduceLT, Nat.reduceEqDiff, Nat.reduceAdd, Nat.reduceMul, ↓reduceIte, reduceCtorEq, tabC]; rfl) (by simp) (fun hb => ?_) (fun hb => ?_)
    · refine wps_seq_k fun K1 hK1 => wps_regT tabC tabC_ok ?_; simp only [go_sem, Nat.reduceLeDiff, Nat.reducePow, Nat.reduceSub, Nat.reduceLT, Nat.reduceEqDiff, Nat.reduceAdd, Nat.reduceMul, ↓reduceIte, reduceCtorEq, tabC]; (first | (refine hK1 _ ?_; clear hK1 K1) | (refine ⟨?_, hK1 _ ?_⟩ <;> clear hK1 K1; first | (· (simp; done)) | (· (simp +contextual; done)) | (· (simp +contextual; omega)) | (· grind) | skip))
      simp only [wps, endQ, resV, resVs, resV1, go_sem, Nat.reduceLeDiff, Nat.reducePow, Nat.reduceSub, Nat.reduceLT, Nat.reduceEqDiff, Nat.reduceAdd, Nat.reduceMul, ↓reduceIte, reduceCtorEq, tabC]
      simp
    · simp at hb
  | some x =>
    have hk : ∀ ok, lookupV Tryz.prog M 104 (.map ol) (.int .i64 q.2) ok = _ := fun ok => look_int_some und104 und2 hL hl
    obtain ⟨xo, xk, hx⟩ := hf x
    rw [hx] at hk
    refine wps_seq_k fun K2 hK2 => ?_
    refine wps_seq_k fun K1 hK1 => wps_drawD tabC tabC_ok (by kernel_rfl) rfl (by kernel_rfl) (by simp only [go_sem, Nat.reduceLeDiff, Nat.reducePow, Nat.reduceSub, Nat.reduceLT, Nat.reduceEqDiff, Nat.reduceAdd, Nat.reduceMul, ↓reduceIte, reduceCtorEq, tabC, fi107_0, fi112_1, ti104, ti2, und2, hT, hk]; rfl) ?_; (first | (refine hK1 _ ?_; clear hK1 K1) | (refine ⟨?_, hK1 _ ?_⟩ <;> clear hK1 K1; first | (· (simp; done)) | (· (simp +contextual; done)) | (· (simp +contextual; omega)) | (· grind) | skip))
    refine wps_seq_k fun K1 hK1 => wps_regT tabC tabC_ok ?_; simp only [go_sem, Nat.reduceLeDiff, Nat.reducePow, Nat.reduceSub, Nat.reduceLT, Nat.reduceEqDiff, Nat.reduceAdd, Nat.reduceMul, ↓reduceIte, reduceCtorEq, tabC]; (first | (refine hK1 _ ?_; clear hK1 K1) | (refine ⟨?_, hK1 _ ?_⟩ <;> clear hK1 K1; first | (· (simp; done)) | (· (simp +contextual; done)) | (· (simp +contextual; omega)) | (· grind) | skip))
    refine wps_cond (by simp only [go_sem, Nat.reduceLeDiff, Nat.reducePow, Nat.reduceSub, Nat.reduceLT, Nat.reduceEqDiff, Nat.reduceAdd, Nat.reduceMul, ↓reduceIte, reduceCtorEq, tabC]; rfl) (by simp) (fun hb => ?_) (fun hb => ?_)
    · simp at hb
    · refine hK2 _ ?_; clear hK2 K2
      refine wps_seq_k fun K1 hK1 => wps_regT tabC tabC_ok ?_; simp only [go_sem, Nat.reduceLeDiff, Nat.reducePow, Nat.reduceSub, Nat.reduceLT, Nat.reduceEqDiff, Nat.reduceAdd, Nat.reduceMul, ↓reduceIte, reduceCtorEq, tabC, fi112_1, ti2]; (first | (refine hK1 _ ?_; clear hK1 K1) | (refine ⟨?_, hK1 _ ?_⟩ <;> clear hK1 K1; first | (· (simp; done)) | (· (simp +contextual; done)) | (· (simp +contextual; omega)) | (· grind) | skip))
      simp only [wps, endQ, resV, resVs, resV1, go_sem, Nat.reduceLeDiff, Nat.reducePow, Nat.reduceSub, Nat.reduceLT, Nat.reduceEqDiff, Nat.reduceAdd, Nat.reduceMul, ↓reduceIte, reduceCtorEq, tabC]
      simp

theorem s38 (next : Int) (M : Heap) : Spec Tryz.prog 38 [.int .i64 next] M fun r M' => ∃ ol on ot, M ol = none ∧ M on = none ∧ M ot = none ∧ ol ≠ on ∧ ol ≠ ot ∧ on ≠ ot ∧ r = .ptr ot 0 ∧ M' = updH (updH (updH M ol (.map [])) on (.map [])) ot (.cells [.map ol, .map on, .int .i64 next]) := by
  refine Spec.strip (escL [7]) ok38 (by simp) ?_
  unfold c38
  refine wps_seq_k fun K1 hK1 => wps_regT tabC tabC_ok ?_; simp only [go_sem, Nat.reduceLeDiff, Nat.reducePow, Nat.reduceSub, Nat.reduceLT, Nat.reduceEqDiff, Nat.reduceAdd, Nat.reduceMul, ↓reduceIte, reduceCtorEq, tabC]; (first | (refine hK1 _ ?_; clear hK1 K1) | (refine ⟨?_, hK1 _ ?_⟩ <;> clear hK1 K1; first | (· (simp; done)) | (· (simp +contextual; done)) | (· (simp +contextual; omega)) | (· grind) | skip))
  refine wps_seq_k fun K1 hK1 => wps_regT tabC tabC_ok ?_; simp only [go_sem, Nat.reduceLeDiff, Nat.reducePow, Nat.reduceSub, Nat.reduceLT, Nat.reduceEqDiff, Nat.reduceAdd, Nat.reduceMul, ↓reduceIte, reduceCtorEq, tabC]; (first | (with_reducible refine oss_obl ?_ ?_; first | (· (simp; done)) | (· (simp +contextual; done)) | (· (simp +contextual; omega)) | (· grind) | skip) | skip)
  refine oss_op rfl rfl ?_; simp only [opw, SO.oper, go_sem, Nat.reduceLeDiff, Nat.reducePow, Nat.reduceSub, Nat.reduceLT, Nat.reduceEqDiff, Nat.reduceAdd, Nat.reduceMul, ↓reduceIte, reduceCtorEq, tabC]
  intro ol hol
  refine oss_runT tabC tabC_ok ?_; simp only [go_sem, Nat.reduceLeDiff, Nat.reducePow, Nat.reduceSub, Nat.reduceLT, Nat.reduceEqDiff, Nat.reduceAdd, Nat.reduceMul, ↓reduceIte, reduceCtorEq, tabC]
  refine oss_op rfl rfl ?_; simp only [opw, SO.oper, go_sem, Nat.reduceLeDiff, Nat.reducePow, Nat.reduceSub, Nat.reduceLT, Nat.reduceEqDiff, Nat.reduceAdd, Nat.reduceMul, ↓reduceIte, reduceCtorEq, tabC]
  intro on hon
  refine oss_runT tabC tabC_ok ?_; simp only [go_sem, Nat.reduceLeDiff, Nat.reducePow, Nat.reduceSub, Nat.reduceLT, Nat.reduceEqDiff, Nat.reduceAdd, Nat.reduceMul, ↓reduceIte, reduceCtorEq, tabC, bs107, fi107_0, fi107_1, fi107_2]
  refine oss_op rfl rfl ?_; simp only [opw, SO.oper, go_sem, Nat.reduceLeDiff, Nat.reducePow, Nat.reduceSub, Nat.reduceLT, Nat.reduceEqDiff, Nat.reduceAdd, Nat.reduceMul, ↓reduceIte, reduceCtorEq, tabC]
  intro ot hot
  refine oss_runT tabC tabC_ok ?_; simp only [go_sem, Nat.reduceLeDiff, Nat.reducePow, Nat.reduceSub, Nat.reduceLT, Nat.reduceEqDiff, Nat.reduceAdd, Nat.reduceMul, ↓reduceIte, reduceCtorEq, tabC]
  refine hK1 _ ?_; clear hK1 K1
  simp only [wps, endQ, resV, resVs, resV1, go_sem, Nat.reduceLeDiff, Nat.reducePow, Nat.reduceSub, Nat.reduceLT, Nat.reduceEqDiff, Nat.reduceAdd, Nat.reduceMul, ↓reduceIte, reduceCtorEq, tabC]
  have h1 : on ≠ ol := by rintro rfl; simp [updH] at hon
  have h2 : M on = none := by simpa [updH, h1] using hon
  have h3 : ot ≠ on := by rintro rfl; simp [updH] at hot
  have h4 : ot ≠ ol := by rintro rfl; simp [updH, h3] at hot
  have h5 : M ot = none := by simpa [updH, h3, h4] using hot
  exact ⟨ol, on, ot, hol, h2, h5, fun e => h1 e.symm, fun e => h4 e.symm, fun e => h3 e.symm, rfl, rfl⟩

end Go.Eng.Tryz

/- Contracts of chapter 42: what joins, what follows. -/
namespace Go.Eng.Tryz
open Go.Proofs
attribute [local go_sem] oss_nil_eq Int.toNat_natCast maxLen Nat.zero_le run step opv slotV opvs dstLt evalQ constV isA setD upd_app guardB List.getD_cons_zero List.getD_cons_succ List.getD_nil V.tag V.cells decide_true decide_false Bool.false_eq_true if_false if_true ne_eq Nat.one_ne_zero not_false_eq_true keyKind cellOk List.forall_mem_cons List.not_mem_nil false_implies true_and and_true implies_true forall_const bump addrAdd loadA loadV part opV binV eqlV eqOk pickV unV convV boundV fillV storeTo splice List.getElem?_cons_zero List.getElem?_cons_succ List.take_succ_cons List.take_zero List.drop_succ_cons List.drop_zero List.length_cons List.length_nil List.cons_append List.nil_append List.append_nil List.getElem_toArray List.getElem?_toArray List.size_toArray and_self eqV_tupl eqV_tupr fbt tbf beq_self_eq_true Bool.not_false Bool.not_true cond_true cond_false newVarW updH_self updH_updH isFuncFn runT stepT stepC isCallV callOf callV escL memN runW stepW stepCW runD stepD safeB slots ownS stepOwn reads runM stepM emptyH softEq V.soft softs readSl chunks partsV delKV slice0V stepE runE
set_option linter.unusedSimpArgs false
set_option linter.unusedVariables false

def joinsQ (m : MetaD) : Bool := tagR m.t && !m.w

theorem s80 (m : MetaD) (M : Heap) : Pure Tryz.prog 80 [metaV m] M (.bool (joinsQ m)) := by
  refine Spec.strip (fun _ => false) ok80 (by simp) ?_
  unfold c80
  refine wps_seq_k fun K1 hK1 => wps_regT tab0 tab0_ok ?_; simp only [go_sem, Nat.reduceLeDiff, Nat.reducePow, Nat.reduceSub, Nat.reduceLT, Nat.reduceEqDiff, Nat.reduceAdd, Nat.reduceMul, ↓reduceIte, reduceCtorEq, tab0]; (first | (refine hK1 _ ?_; clear hK1 K1) | (refine ⟨?_, hK1 _ ?_⟩ <;> clear hK1 K1; first | (· (simp; done)) | (· (simp +contextual; done)) | (· (simp +contextual; omega)) | (· grind) | skip))
  refine wps_seq_k fun K1 hK1 => wps_regT tab0 tab0_ok ?_; simp only [go_sem, Nat.reduceLeDiff, Nat.reducePow, Nat.reduceSub, Nat.reduceLT, Nat.reduceEqDiff, Nat.reduceAdd, Nat.reduceMul, ↓reduceIte, reduceCtorEq, tab0, fi39_0, fi36_1, ti36, ti4]; (first | (refine hK1 _ ?_; clear hK1 K1) | (refine ⟨?_, hK1 _ ?_⟩ <;> clear hK1 K1; first | (· (simp; done)) | (· (simp +contextual; done)) | (· (simp +contextual; omega)) | (· grind) | skip))
  simp only [wps, endQ, resV, resVs, resV1, go_sem, Nat.reduceLeDiff, Nat.reducePow, Nat.reduceSub, Nat.reduceLT, Nat.reduceEqDiff, Nat.reduceAdd, Nat.reduceMul, ↓reduceIte, reduceCtorEq, tab0]
  simp [joinsQ]

def strong2 (t u : B) (w x : Bool) : Bool := (weakEq t u && !w) && !x

def tWk : Tab := fun M id vs => match id, vs with
  | 127, [.agg [.str t, .bool _], .agg [.str u, .bool _]] => some (True, .bool (weakEq t u))
  | _, _ => none
theorem tWk_ok : TabOk Tryz.prog tWk := by
  intro M id vs g r h hg
  unfold tWk at h
  split at h <;> (try simp only [Option.some.injEq, Prod.mk.injEq, reduceCtorEq] at h) <;> (try (obtain ⟨rfl, rfl⟩ := h))
  · exact s127 _ _ _ _ _

theorem s81 (t u : B) (w x : Bool) (M : Heap) : Pure Tryz.prog 81 [.agg [.str t, .bool w], .agg [.str u, .bool x]] M (.bool (strong2 t u w x)) := by
  refine Spec.strip (fun _ => false) ok81 (by simp) ?_
  unfold c81
  refine wps_seq_k fun K1 hK1 => wps_regT tWk tWk_ok ?_; simp only [go_sem, Nat.reduceLeDiff, Nat.reducePow, Nat.reduceSub, Nat.reduceLT, Nat.reduceEqDiff, Nat.reduceAdd, Nat.reduceMul, ↓reduceIte, reduceCtorEq, tWk]; (first | (refine hK1 _ ?_; clear hK1 K1) | (refine ⟨?_, hK1 _ ?_⟩ <;> clear hK1 K1; first | (· (simp; done)) | (· (simp +contextual; done)) | (· (simp +contextual; omega)) | (· grind) | skip))
  refine wps_seq_k fun K1 hK1 => wps_regT tWk tWk_ok ?_; simp only [go_sem, Nat.reduceLeDiff, Nat.reducePow, Nat.reduceSub, Nat.reduceLT, Nat.reduceEqDiff, Nat.reduceAdd, Nat.reduceMul, ↓reduceIte, reduceCtorEq, tWk, fi36_1, ti36, ti4]; (first | (refine hK1 _ ?_; clear hK1 K1) | (refine ⟨?_, hK1 _ ?_⟩ <;> clear hK1 K1; first | (· (simp; done)) | (· (simp +contextual; done)) | (· (simp +contextual; omega)) | (· grind) | skip))
  simp only [wps, endQ, resV, resVs, resV1, go_sem, Nat.reduceLeDiff, Nat.reducePow, Nat.reduceSub, Nat.reduceLT, Nat.reduceEqDiff, Nat.reduceAdd, Nat.reduceMul, ↓reduceIte, reduceCtorEq, tWk]
  simp [strong2]

def deMeta : List V → Option MetaD
  | [.str t, .bool w, .int .i64 mod, .int .i64 len, .int .i64 have_, .int .i64 fresh, .int .i64 while_, .int .i64 err, .lst es, .str ten, .bool keep] => match unsl es with
    | some ks => some ⟨t, w, mod, len, have_, fresh, while_, err, ks, ten, keep⟩
    | none => none
  | _ => none
theorem deMeta_c (t : B) (w : Bool) (mod len have_ fresh while_ err : Int) (ks : List B) (ten : B) (keep : Bool) : deMeta [.str t, .bool w, .int .i64 mod, .int .i64 len, .int .i64 have_, .int .i64 fresh, .int .i64 while_, .int .i64 err, .lst (sl ks), .str ten, .bool keep] = some ⟨t, w, mod, len, have_, fresh, while_, err, ks, ten, keep⟩ := by
  simp only [deMeta, unsl_sl]
theorem deMeta_n (t : B) (w : Bool) (mod len have_ fresh while_ err : Int) (ten : B) (keep : Bool) : deMeta [.str t, .bool w, .int .i64 mod, .int .i64 len, .int .i64 have_, .int .i64 fresh, .int .i64 while_, .int .i64 err, .lst [], .str ten, .bool keep] = some ⟨t, w, mod, len, have_, fresh, while_, err, [], ten, keep⟩ := rfl
theorem deMeta_eq {l : List V} {m : MetaD} (h : deMeta l = some m) : .agg l = metaV m := by
  unfold deMeta at h
  split at h
  · split at h <;> cases h
    rename_i hu
    rw [unsl_eq hu]
  · cases h

def tRight : List V → Option (Prop × V)
  | [.agg l] => match deMeta l with
    | some m => some (True, .bool (metaQ m))
    | none => none
  | _ => none
def tJoins : List V → Option (Prop × V)
  | [.agg l] => match deMeta l with
    | some m => some (True, .bool (joinsQ m))
    | none => none
  | _ => none
def tStrong : List V → Option (Prop × V)
  | [.agg [.str t, .bool w], .agg [.str u, .bool x]] => some (True, .bool (strong2 t u w x))
  | _ => none
def tabM : Tab := fun _ id vs => match id with
  | 75 => tRight vs
  | 80 => tJoins vs
  | 81 => tStrong vs
  | _ => none
theorem tabM_ok : TabOk Tryz.prog tabM := by
  intro M id vs g r h hg
  unfold tabM at h
  split at h
  · unfold tRight at h
    split at h <;> try (cases h; done)
    split at h <;> cases h
    rename_i hm
    rw [deMeta_eq hm]
    exact s75 _ _
  · unfold tJoins at h
    split at h <;> try (cases h; done)
    split at h <;> cases h
    rename_i hm
    rw [deMeta_eq hm]
    exact s80 _ _
  · unfold tStrong at h
    split at h <;> cases h
    exact s81 _ _ _ _ _
  · cases h

def followsQ (m n : MetaD) : Bool :=
  metaQ m && (metaQ n && (joinsQ m && (strong2 m.t n.t m.w n.w && (m.mod == n.mod && (if m.len ≥ 0 then m.len == n.len else decide (n.have_ ≥ m.have_))))))

theorem s82 (m n : MetaD) (M : Heap) : Pure Tryz.prog 82 [metaV m, metaV n] M (.bool (followsQ m n)) := by
  obtain ⟨mt, mw, mm, ml, mh, mf, mwh, mer, mk, mten, mkeep⟩ := m
  obtain ⟨nt, nw, nm, nl, nh, nf, nwh, ner, nk, nten, nkeep⟩ := n
  refine Spec.strip (fun _ => false) ok82 (by simp) ?_
  have hgoal : ∀ A B C D : Bool, metaQ ⟨mt, mw, mm, ml, mh, mf, mwh, mer, mk, mten, mkeep⟩ = A → metaQ ⟨nt, nw, nm, nl, nh, nf, nwh, ner, nk, nten, nkeep⟩ = B → joinsQ ⟨mt, mw, mm, ml, mh, mf, mwh, mer, mk, mten, mkeep⟩ = C → strong2 mt nt mw nw = D →
      followsQ ⟨mt, mw, mm, ml, mh, mf, mwh, mer, mk, mten, mkeep⟩ ⟨nt, nw, nm, nl, nh, nf, nwh, ner, nk, nten, nkeep⟩ = (A && (B && (C && (D && (mm == nm && (if ml ≥ 0 then ml == nl else decide (nh ≥ mh))))))) := by
    intro A B C D h1 h2 h3 h4
    simp only [followsQ, h1, h2, h3, h4]
  obtain ⟨A, hA⟩ : ∃ A, metaQ ⟨mt, mw, mm, ml, mh, mf, mwh, mer, mk, mten, mkeep⟩ = A := ⟨_, rfl⟩
  obtain ⟨B', hB⟩ : ∃ A, metaQ ⟨nt, nw, nm, nl, nh, nf, nwh, ner, nk, nten, nkeep⟩ = A := ⟨_, rfl⟩
  obtain ⟨C, hC⟩ : ∃ A, joinsQ ⟨mt, mw, mm, ml, mh, mf, mwh, mer, mk, mten, mkeep⟩ = A := ⟨_, rfl⟩
  obtain ⟨D, hD⟩ : ∃ A, strong2 mt nt mw nw = A := ⟨_, rfl⟩
  rw [hgoal _ _ _ _ hA hB hC hD]; clear hgoal
  unfold c82
  refine wps_seq_k fun K1 hK1 => wps_regT tabM tabM_ok ?_; simp only [go_sem, Nat.reduceLeDiff, Nat.reducePow, Nat.reduceSub, Nat.reduceLT, Nat.reduceEqDiff, Nat.reduceAdd, Nat.reduceMul, ↓reduceIte, reduceCtorEq, tabM, tRight, tJoins, tStrong, deMeta_c]; (first | (refine hK1 _ ?_; clear hK1 K1) | (refine ⟨?_, hK1 _ ?_⟩ <;> clear hK1 K1; first | (· (simp; done)) | (· (simp +contextual; done)) | (· (simp +contextual; omega)) | (· grind) | skip))
  refine wps_seq_k fun K2 hK2 => ?_
  refine wps_seq_k fun K1 hK1 => wps_regT tabM tabM_ok ?_; simp only [go_sem, Nat.reduceLeDiff, Nat.reducePow, Nat.reduceSub, Nat.reduceLT, Nat.reduceEqDiff, Nat.reduceAdd, Nat.reduceMul, ↓reduceIte, reduceCtorEq, tabM, tRight, tJoins, tStrong, deMeta_c, fi39_0, fi39_1, ti36, ti39, ti2, und2, hA, hB, hC, hD]; (first | (refine hK1 _ ?_; clear hK1 K1) | (refine ⟨?_, hK1 _ ?_⟩ <;> clear hK1 K1; first | (· (simp; done)) | (· (simp +contextual; done)) | (· (simp +contextual; omega)) | (· grind) | skip))
  refine wps_cond (by simp only [go_sem, Nat.reduceLeDiff, Nat.reducePow, Nat.reduceSub, Nat.reduceLT, Nat.reduceEqDiff, Nat.reduceAdd, Nat.reduceMul, ↓reduceIte, reduceCtorEq, tabM, tRight, tJoins, tStrong, deMeta_c]; rfl) (by simp) (fun hb => ?_) (fun hb => ?_)
  · refine wps_seq_k fun K1 hK1 => wps_regT tabM tabM_ok ?_; simp only [go_sem, Nat.reduceLeDiff, Nat.reducePow, Nat.reduceSub, Nat.reduceLT, Nat.reduceEqDiff, Nat.reduceAdd, Nat.reduceMul, ↓reduceIte, reduceCtorEq, tabM, tRight, tJoins, tStrong, deMeta_c]; (first | (refine hK1 _ ?_; clear hK1 K1) | (refine ⟨?_, hK1 _ ?_⟩ <;> clear hK1 K1; first | (· (simp; done)) | (· (simp +contextual; done)) | (· (simp +contextual; omega)) | (· grind) | skip))
    simp only [wps, endQ, resV, resVs, resV1, go_sem, Nat.reduceLeDiff, Nat.reducePow, Nat.reduceSub, Nat.reduceLT, Nat.reduceEqDiff, Nat.reduceAdd, Nat.reduceMul, ↓reduceIte, reduceCtorEq, tabM, tRight, tJoins, tStrong, deMeta_c]
    clear hA hB hC hD; cases A <;> cases B' <;> cases C <;> cases D <;> simp at hb ⊢
    all_goals (first | omega | grind)
  · refine hK2 _ ?_; clear hK2 K2
    refine wps_seq_k fun K2 hK2 => ?_
    have hb0 := hb; clear hb
    refine wps_seq_k fun K1 hK1 => wps_regT tabM tabM_ok ?_; simp only [go_sem, Nat.reduceLeDiff, Nat.reducePow, Nat.reduceSub, Nat.reduceLT, Nat.reduceEqDiff, Nat.reduceAdd, Nat.reduceMul, ↓reduceIte, reduceCtorEq, tabM, tRight, tJoins, tStrong, deMeta_c, fi39_2, ti2, und2]; (first | (refine hK1 _ ?_; clear hK1 K1) | (refine ⟨?_, hK1 _ ?_⟩ <;> clear hK1 K1; first | (· (simp; done)) | (· (simp +contextual; done)) | (· (simp +contextual; omega)) | (· grind) | skip))
    refine wps_cond (by simp only [go_sem, Nat.reduceLeDiff, Nat.reducePow, Nat.reduceSub, Nat.reduceLT, Nat.reduceEqDiff, Nat.reduceAdd, Nat.reduceMul, ↓reduceIte, reduceCtorEq, tabM, tRight, tJoins, tStrong, deMeta_c]; rfl) (by simp) (fun hb => ?_) (fun hb => ?_)
    · refine wps_seq_k fun K1 hK1 => wps_regT tabM tabM_ok ?_; simp only [go_sem, Nat.reduceLeDiff, Nat.reducePow, Nat.reduceSub, Nat.reduceLT, Nat.reduceEqDiff, Nat.reduceAdd, Nat.reduceMul, ↓reduceIte, reduceCtorEq, tabM, tRight, tJoins, tStrong, deMeta_c, fi39_2, ti2, und2]; (first | (refine hK1 _ ?_; clear hK1 K1) | (refine ⟨?_, hK1 _ ?_⟩ <;> clear hK1 K1; first | (· (simp; done)) | (· (simp +contextual; done)) | (· (simp +contextual; omega)) | (· grind) | skip))
      simp only [wps, endQ, resV, resVs, resV1, go_sem, Nat.reduceLeDiff, Nat.reducePow, Nat.reduceSub, Nat.reduceLT, Nat.reduceEqDiff, Nat.reduceAdd, Nat.reduceMul, ↓reduceIte, reduceCtorEq, tabM, tRight, tJoins, tStrong, deMeta_c]
      clear hA hB hC hD; cases A <;> cases B' <;> cases C <;> cases D <;> simp at hb hb0 ⊢
      all_goals (first | omega | grind)
    · refine hK2 _ ?_; clear hK2 K2
      refine wps_seq_k fun K1 hK1 => wps_regT tabM tabM_ok ?_; simp only [go_sem, Nat.reduceLeDiff, Nat.reducePow, Nat.reduceSub, Nat.reduceLT, Nat.reduceEqDiff, Nat.reduceAdd, Nat.reduceMul, ↓reduceIte, reduceCtorEq, tabM, tRight, tJoins, tStrong, deMeta_c, fi39_3, ti2, und2]; (first | (refine hK1 _ ?_; clear hK1 K1) | (refine ⟨?_, hK1 _ ?_⟩ <;> clear hK1 K1; first | (· (simp; done)) | (· (simp +contextual; done)) | (· (simp +contextual; omega)) | (· grind) | skip))
      simp only [wps, endQ, resV, resVs, resV1, go_sem, Nat.reduceLeDiff, Nat.reducePow, Nat.reduceSub, Nat.reduceLT, Nat.reduceEqDiff, Nat.reduceAdd, Nat.reduceMul, ↓reduceIte, reduceCtorEq, tabM, tRight, tJoins, tStrong, deMeta_c]
      clear hA hB hC hD; cases A <;> cases B' <;> cases C <;> cases D <;> simp at hb hb0 ⊢
      all_goals (first | omega | grind)

end Go.Eng.Tryz

/- Contracts of chapter 42: decoders; Get. -/
namespace Go.Eng.Tryz
open Go.Proofs
set_option linter.unusedSimpArgs false
set_option linter.unusedVariables false

def deEnt : List V → Option EntD
  | [.int .i64 id, .str obj, .str t, .bool w, .int .i64 mod, .int .i64 len, .int .i64 have_, .int .i64 fresh, .int .i64 while_, .int .i64 err, .lst es, .str ten, .bool keep, .int .i64 said, .int .i64 mom, .int .i64 gen, .bool turned] => match unsl es with
    | some ks => some ⟨id, obj, ⟨t, w, mod, len, have_, fresh, while_, err, ks, ten, keep⟩, said, mom, gen, turned⟩
    | none => none
  | _ => none
theorem deEnt_c (id : Int) (obj t : B) (w : Bool) (mod len have_ fresh while_ err : Int) (ks : List B) (ten : B) (keep : Bool) (said mom gen : Int) (turned : Bool) : deEnt [.int .i64 id, .str obj, .str t, .bool w, .int .i64 mod, .int .i64 len, .int .i64 have_, .int .i64 fresh, .int .i64 while_, .int .i64 err, .lst (sl ks), .str ten, .bool keep, .int .i64 said, .int .i64 mom, .int .i64 gen, .bool turned] = some ⟨id, obj, ⟨t, w, mod, len, have_, fresh, while_, err, ks, ten, keep⟩, said, mom, gen, turned⟩ := by
  simp only [deEnt, unsl_sl]
theorem deEnt_eq {l : List V} {e : EntD} (h : deEnt l = some e) : l = entL e := by
  unfold deEnt at h
  split at h
  · split at h <;> cases h
    rename_i hu
    rw [unsl_eq hu]
    rfl
  · cases h

def deN : List (V × V) → Option (List (B × Int × Int))
  | [] => some []
  | (.str k, .agg [.int .i64 a, .int .i64 b]) :: l => match deN l with
    | some r => some ((k, a, b) :: r)
    | none => none
  | _ => none
theorem deN_c : ∀ N : List (B × Int × Int), deN (strKV nV N) = some N
  | [] => rfl
  | (k, a, b) :: N => by
    have ih := deN_c N
    simp only [strKV, List.map_cons, nV, deN] at ih ⊢
    rw [ih]
theorem deN_eq : ∀ {kvs : List (V × V)} {N : List (B × Int × Int)}, deN kvs = some N → kvs = strKV nV N
  | [], N, h => by cases h; rfl
  | (k, v) :: l, N, h => by
    unfold deN at h
    split at h
    · rename_i heq; cases heq
    · rename_i heq
      split at h <;> cases h
      rename_i hl
      cases heq
      rw [deN_eq hl]; rfl
    · cases h

def deTab : Option HObj → Option (Nat × Nat × Int)
  | some (.cells [.map ol, .map on, .int .i64 next]) => some (ol, on, next)
  | _ => none
theorem deTab_eq {h : Option HObj} {a b : Nat} {c : Int} (e : deTab h = some (a, b, c)) : h = some (.cells [.map a, .map b, .int .i64 c]) := by
  unfold deTab at e
  split at e <;> cases e
  rfl
def deMap : Option HObj → Option (List (B × Int × Int))
  | some (.map kvs) => deN kvs
  | _ => none
theorem deMap_eq {h : Option HObj} {N : List (B × Int × Int)} (e : deMap h = some N) : h = some (.map (strKV nV N)) := by
  unfold deMap at e
  split at e
  · rw [deN_eq e]
  · cases e

def tCopied : List V → Option (Prop × V)
  | [.agg l] => match deMeta l with
    | some m => some (m.keys.length * 16 ≤ 140737488355328, metaV m)
    | none => none
  | _ => none
def tTurned (M : Heap) : List V → Option (Prop × V)
  | [.ptr ot 0, .agg l] => match deEnt l, deTab (M ot) with
    | some e, some (_, on, _) => match deMap (M on) with
      | some N => some (True, .bool (!((newQ N e.obj).2 == e.id)))
      | none => none
    | _, _ => none
  | _ => none
def tabG : Tab := fun M id vs => match id with
  | 40 => tCopied vs
  | 65 => tTurned M vs
  | _ => none
theorem tabG_ok : TabOk Tryz.prog tabG := by
  intro M id vs g r h hg
  unfold tabG at h
  split at h
  · unfold tCopied at h
    split at h <;> try (cases h; done)
    split at h <;> cases h
    rename_i hm
    rw [deMeta_eq hm]
    exact s40 _ hg _
  · unfold tTurned at h
    split at h <;> try (cases h; done)
    split at h <;> try (cases h; done)
    split at h <;> cases h
    rename_i he ht _ _ hN
    rw [deEnt_eq he]
    exact s65 _ _ _ _ _ _ _ (deTab_eq ht) (deMap_eq hN)
  · cases h

end Go.Eng.Tryz

/- Contracts of chapter 42: Get. -/
namespace Go.Eng.Tryz
open Go.Proofs
attribute [local go_sem] oss_nil_eq Int.toNat_natCast maxLen Nat.zero_le run step opv slotV opvs dstLt evalQ constV isA setD upd_app guardB List.getD_cons_zero List.getD_cons_succ List.getD_nil V.tag V.cells decide_true decide_false Bool.false_eq_true if_false if_true ne_eq Nat.one_ne_zero not_false_eq_true keyKind cellOk List.forall_mem_cons List.not_mem_nil false_implies true_and and_true implies_true forall_const bump addrAdd loadA loadV part opV binV eqlV eqOk pickV unV convV boundV fillV storeTo splice List.getElem?_cons_zero List.getElem?_cons_succ List.take_succ_cons List.take_zero List.drop_succ_cons List.drop_zero List.length_cons List.length_nil List.cons_append List.nil_append List.append_nil List.getElem_toArray List.getElem?_toArray List.size_toArray and_self eqV_tupl eqV_tupr fbt tbf beq_self_eq_true Bool.not_false Bool.not_true cond_true cond_false newVarW updH_self updH_updH isFuncFn runT stepT stepC isCallV callOf callV escL memN runW stepW stepCW runD stepD safeB slots ownS stepOwn reads runM stepM emptyH softEq V.soft softs readSl chunks partsV delKV slice0V stepE runE
set_option linter.unusedSimpArgs false
set_option linter.unusedVariables false

structure KD where
  (o : Nat) (e : EntD) (has : V)
abbrev kV (a : KD) : V := .ptr a.o 0

theorem deTab_c (a b : Nat) (c : Int) : deTab (some (.cells [.map a, .map b, .int .i64 c])) = some (a, b, c) := rfl
theorem deMap_c (N : List (B × Int × Int)) : deMap (some (.map (strKV nV N))) = some N := deN_c N

theorem s20_some (ot ol on o : Nat) (next id : Int) (N : List (B × Int × Int)) (L : List (Int × KD)) (e : EntD) (has : V) (M : Heap) (hT : M ot = some (.cells [.map ol, .map on, .int .i64 next])) (hN : M on = some (.map (strKV nV N))) (hL : M ol = some (.map (intKV kV L)))
    (hl : L.lookup id = some ⟨o, e, has⟩) (ho : M o = some (.cells (knownL e has))) (hk : e.m.keys.length * 16 ≤ 140737488355328) :
    Pure Tryz.prog 20 [.ptr ot 0, .int .i64 id] M (.tup [.agg (entL { e with turned := !((newQ N e.obj).2 == e.id) }), .bool true]) := by
  refine Spec.strip (escL [1000008]) ok20 (by simp) ?_
  unfold c20
  obtain ⟨eid, eobj, ⟨t, w, mod, len, have_, fresh, while_, err, keys, ten, keep⟩, said, mom, gen, turned⟩ := e
  simp only [knownL, entL] at ho hk ⊢
  have hlk : ∀ ok, lookupV Tryz.prog M 104 (.map ol) (.int .i64 id) ok = _ := fun ok => look_int_some und104 und2 hL hl
  refine wps_seq_k fun K1 hK1 => wps_regT tabG tabG_ok ?_; simp only [go_sem, Nat.reduceLeDiff, Nat.reducePow, Nat.reduceSub, Nat.reduceLT, Nat.reduceEqDiff, Nat.reduceAdd, Nat.reduceMul, ↓reduceIte, reduceCtorEq, tabG, tCopied, tTurned, deMeta_c, deEnt_c, deTab_c, deMap_c, zero57]; (first | (refine hK1 _ ?_; clear hK1 K1) | (refine ⟨?_, hK1 _ ?_⟩ <;> clear hK1 K1; first | (· (simp; done)) | (· (simp +contextual; done)) | (· (simp +contextual; omega)) | (· grind) | skip))
  refine wps_seq_k fun K2 hK2 => ?_
  refine wps_seq_k fun K1 hK1 => wps_regT tabG tabG_ok ?_; simp only [go_sem, Nat.reduceLeDiff, Nat.reducePow, Nat.reduceSub, Nat.reduceLT, Nat.reduceEqDiff, Nat.reduceAdd, Nat.reduceMul, ↓reduceIte, reduceCtorEq, tabG, tCopied, tTurned, deMeta_c, deEnt_c, deTab_c, deMap_c, eq25c]; (first | (refine hK1 _ ?_; clear hK1 K1) | (refine ⟨?_, hK1 _ ?_⟩ <;> clear hK1 K1; first | (· (simp; done)) | (· (simp +contextual; done)) | (· (simp +contextual; omega)) | (· grind) | skip))
  refine wps_cond (by simp only [go_sem, Nat.reduceLeDiff, Nat.reducePow, Nat.reduceSub, Nat.reduceLT, Nat.reduceEqDiff, Nat.reduceAdd, Nat.reduceMul, ↓reduceIte, reduceCtorEq, tabG, tCopied, tTurned, deMeta_c, deEnt_c, deTab_c, deMap_c]; rfl) (by simp) (fun hb => ?_) (fun hb => ?_)
  · simp at hb
  refine hK2 _ ?_; clear hK2 K2
  refine wps_seq_k fun K1 hK1 => wps_regT tabG tabG_ok ?_; simp only [go_sem, Nat.reduceLeDiff, Nat.reducePow, Nat.reduceSub, Nat.reduceLT, Nat.reduceEqDiff, Nat.reduceAdd, Nat.reduceMul, ↓reduceIte, reduceCtorEq, tabG, tCopied, tTurned, deMeta_c, deEnt_c, deTab_c, deMap_c, fi107_0, ti104, ti2, und2, hT, hlk]; (first | (refine hK1 _ ?_; clear hK1 K1) | (refine ⟨?_, hK1 _ ?_⟩ <;> clear hK1 K1; first | (· (simp; done)) | (· (simp +contextual; done)) | (· (simp +contextual; omega)) | (· grind) | skip))
  refine wps_seq_k fun K2 hK2 => ?_
  refine wps_seq_k fun K1 hK1 => wps_regT tabG tabG_ok ?_; simp only [go_sem, Nat.reduceLeDiff, Nat.reducePow, Nat.reduceSub, Nat.reduceLT, Nat.reduceEqDiff, Nat.reduceAdd, Nat.reduceMul, ↓reduceIte, reduceCtorEq, tabG, tCopied, tTurned, deMeta_c, deEnt_c, deTab_c, deMap_c]; (first | (refine hK1 _ ?_; clear hK1 K1) | (refine ⟨?_, hK1 _ ?_⟩ <;> clear hK1 K1; first | (· (simp; done)) | (· (simp +contextual; done)) | (· (simp +contextual; omega)) | (· grind) | skip))
  refine wps_cond (by simp only [go_sem, Nat.reduceLeDiff, Nat.reducePow, Nat.reduceSub, Nat.reduceLT, Nat.reduceEqDiff, Nat.reduceAdd, Nat.reduceMul, ↓reduceIte, reduceCtorEq, tabG, tCopied, tTurned, deMeta_c, deEnt_c, deTab_c, deMap_c]; rfl) (by simp) (fun hb => ?_) (fun hb => ?_)
  · simp at hb
  refine hK2 _ ?_; clear hK2 K2
  refine wps_seq_k fun K1 hK1 => wps_regT tabG tabG_ok ?_; simp only [go_sem, Nat.reduceLeDiff, Nat.reducePow, Nat.reduceSub, Nat.reduceLT, Nat.reduceEqDiff, Nat.reduceAdd, Nat.reduceMul, ↓reduceIte, reduceCtorEq, tabG, tCopied, tTurned, deMeta_c, deEnt_c, deTab_c, deMap_c, fi110_0, ti57, zero57, ho]; (first | (refine hK1 _ ?_; clear hK1 K1) | (refine ⟨?_, hK1 _ ?_⟩ <;> clear hK1 K1; first | (· (simp; done)) | (· (simp +contextual; done)) | (· (simp +contextual; omega)) | (· grind) | skip))
  refine wps_seq_k fun K1 hK1 => wps_drawD tabG tabG_ok (by kernel_rfl) rfl (by kernel_rfl) (by simp only [go_sem, Nat.reduceLeDiff, Nat.reducePow, Nat.reduceSub, Nat.reduceLT, Nat.reduceEqDiff, Nat.reduceAdd, Nat.reduceMul, ↓reduceIte, reduceCtorEq, tabG, tCopied, tTurned, deMeta_c, deEnt_c, deTab_c, deMap_c, fi57_2, fi57_6, ti39, ti57, ti4, hT, hN]; rfl) ?_; (first | (refine hK1 _ ?_; clear hK1 K1) | (refine ⟨?_, hK1 _ ?_⟩ <;> clear hK1 K1; first | (· (simp; done)) | (· (simp +contextual; done)) | (· (simp +contextual; omega)) | (· grind) | skip))
  refine wps_seq_k fun K1 hK1 => wps_regT tabG tabG_ok ?_; simp only [go_sem, Nat.reduceLeDiff, Nat.reducePow, Nat.reduceSub, Nat.reduceLT, Nat.reduceEqDiff, Nat.reduceAdd, Nat.reduceMul, ↓reduceIte, reduceCtorEq, tabG, tCopied, tTurned, deMeta_c, deEnt_c, deTab_c, deMap_c, ti57]; (first | (refine hK1 _ ?_; clear hK1 K1) | (refine ⟨?_, hK1 _ ?_⟩ <;> clear hK1 K1; first | (· (simp; done)) | (· (simp +contextual; done)) | (· (simp +contextual; omega)) | (· grind) | skip))
  simp only [wps, endQ, resV, resVs, resV1, go_sem, Nat.reduceLeDiff, Nat.reducePow, Nat.reduceSub, Nat.reduceLT, Nat.reduceEqDiff, Nat.reduceAdd, Nat.reduceMul, ↓reduceIte, reduceCtorEq, tabG, tCopied, tTurned, deMeta_c, deEnt_c, deTab_c, deMap_c, ti57]

abbrev zeroE : V := .agg [.int .i64 0, .str [], .str [], .bool false, .int .i64 0, .int .i64 0, .int .i64 0, .int .i64 0, .int .i64 0, .int .i64 0, .nils, .str [], .bool false, .int .i64 0, .int .i64 0, .int .i64 0, .bool false]

theorem s20_none (ot ol on : Nat) (next id : Int) (L : List (Int × KD)) (M : Heap) (hT : M ot = some (.cells [.map ol, .map on, .int .i64 next])) (hL : M ol = some (.map (intKV kV L)))
    (hl : L.lookup id = none) : Pure Tryz.prog 20 [.ptr ot 0, .int .i64 id] M (.tup [zeroE, .bool false]) := by
  refine Spec.strip (escL [1000008]) ok20 (by simp) ?_
  unfold c20
  have hlk : ∀ ok, lookupV Tryz.prog M 104 (.map ol) (.int .i64 id) ok = _ := fun ok => look_int_none und104 und2 zero103 hL hl
  refine wps_seq_k fun K1 hK1 => wps_regT tabG tabG_ok ?_; simp only [go_sem, Nat.reduceLeDiff, Nat.reducePow, Nat.reduceSub, Nat.reduceLT, Nat.reduceEqDiff, Nat.reduceAdd, Nat.reduceMul, ↓reduceIte, reduceCtorEq, tabG, tCopied, tTurned, deMeta_c, deEnt_c, deTab_c, deMap_c, zero57]; (first | (refine hK1 _ ?_; clear hK1 K1) | (refine ⟨?_, hK1 _ ?_⟩ <;> clear hK1 K1; first | (· (simp; done)) | (· (simp +contextual; done)) | (· (simp +contextual; omega)) | (· grind) | skip))
  refine wps_seq_k fun K2 hK2 => ?_
  refine wps_seq_k fun K1 hK1 => wps_regT tabG tabG_ok ?_; simp only [go_sem, Nat.reduceLeDiff, Nat.reducePow, Nat.reduceSub, Nat.reduceLT, Nat.reduceEqDiff, Nat.reduceAdd, Nat.reduceMul, ↓reduceIte, reduceCtorEq, tabG, tCopied, tTurned, deMeta_c, deEnt_c, deTab_c, deMap_c, eq25c]; (first | (refine hK1 _ ?_; clear hK1 K1) | (refine ⟨?_, hK1 _ ?_⟩ <;> clear hK1 K1; first | (· (simp; done)) | (· (simp +contextual; done)) | (· (simp +contextual; omega)) | (· grind) | skip))
  refine wps_cond (by simp only [go_sem, Nat.reduceLeDiff, Nat.reducePow, Nat.reduceSub, Nat.reduceLT, Nat.reduceEqDiff, Nat.reduceAdd, Nat.reduceMul, ↓reduceIte, reduceCtorEq, tabG, tCopied, tTurned, deMeta_c, deEnt_c, deTab_c, deMap_c]; rfl) (by simp) (fun hb => ?_) (fun hb => ?_)
  · simp at hb
  refine hK2 _ ?_; clear hK2 K2
  refine wps_seq_k fun K1 hK1 => wps_regT tabG tabG_ok ?_; simp only [go_sem, Nat.reduceLeDiff, Nat.reducePow, Nat.reduceSub, Nat.reduceLT, Nat.reduceEqDiff, Nat.reduceAdd, Nat.reduceMul, ↓reduceIte, reduceCtorEq, tabG, tCopied, tTurned, deMeta_c, deEnt_c, deTab_c, deMap_c, fi107_0, ti104, ti2, und2, hT, hlk]; (first | (refine hK1 _ ?_; clear hK1 K1) | (refine ⟨?_, hK1 _ ?_⟩ <;> clear hK1 K1; first | (· (simp; done)) | (· (simp +contextual; done)) | (· (simp +contextual; omega)) | (· grind) | skip))
  refine wps_seq_k fun K2 hK2 => ?_
  refine wps_seq_k fun K1 hK1 => wps_regT tabG tabG_ok ?_; simp only [go_sem, Nat.reduceLeDiff, Nat.reducePow, Nat.reduceSub, Nat.reduceLT, Nat.reduceEqDiff, Nat.reduceAdd, Nat.reduceMul, ↓reduceIte, reduceCtorEq, tabG, tCopied, tTurned, deMeta_c, deEnt_c, deTab_c, deMap_c]; (first | (refine hK1 _ ?_; clear hK1 K1) | (refine ⟨?_, hK1 _ ?_⟩ <;> clear hK1 K1; first | (· (simp; done)) | (· (simp +contextual; done)) | (· (simp +contextual; omega)) | (· grind) | skip))
  refine wps_cond (by simp only [go_sem, Nat.reduceLeDiff, Nat.reducePow, Nat.reduceSub, Nat.reduceLT, Nat.reduceEqDiff, Nat.reduceAdd, Nat.reduceMul, ↓reduceIte, reduceCtorEq, tabG, tCopied, tTurned, deMeta_c, deEnt_c, deTab_c, deMap_c]; rfl) (by simp) (fun hb => ?_) (fun hb => ?_)
  · refine wps_seq_k fun K1 hK1 => wps_regT tabG tabG_ok ?_; simp only [go_sem, Nat.reduceLeDiff, Nat.reducePow, Nat.reduceSub, Nat.reduceLT, Nat.reduceEqDiff, Nat.reduceAdd, Nat.reduceMul, ↓reduceIte, reduceCtorEq, tabG, tCopied, tTurned, deMeta_c, deEnt_c, deTab_c, deMap_c, bs57, ti57]; (first | (refine hK1 _ ?_; clear hK1 K1) | (refine ⟨?_, hK1 _ ?_⟩ <;> clear hK1 K1; first | (· (simp; done)) | (· (simp +contextual; done)) | (· (simp +contextual; omega)) | (· grind) | skip))
    simp only [wps, endQ, resV, resVs, resV1, go_sem, Nat.reduceLeDiff, Nat.reducePow, Nat.reduceSub, Nat.reduceLT, Nat.reduceEqDiff, Nat.reduceAdd, Nat.reduceMul, ↓reduceIte, reduceCtorEq, tabG, tCopied, tTurned, deMeta_c, deEnt_c, deTab_c, deMap_c, ti57]
  · simp at hb

theorem s20_nil (id : Int) (M : Heap) : Pure Tryz.prog 20 [.nilp, .int .i64 id] M (.tup [zeroE, .bool false]) := by
  refine Spec.strip (escL [1000008]) ok20 (by simp) ?_
  unfold c20
  refine wps_seq_k fun K1 hK1 => wps_regT tabG tabG_ok ?_; simp only [go_sem, Nat.reduceLeDiff, Nat.reducePow, Nat.reduceSub, Nat.reduceLT, Nat.reduceEqDiff, Nat.reduceAdd, Nat.reduceMul, ↓reduceIte, reduceCtorEq, tabG, tCopied, tTurned, deMeta_c, deEnt_c, deTab_c, deMap_c, zero57]; (first | (refine hK1 _ ?_; clear hK1 K1) | (refine ⟨?_, hK1 _ ?_⟩ <;> clear hK1 K1; first | (· (simp; done)) | (· (simp +contextual; done)) | (· (simp +contextual; omega)) | (· grind) | skip))
  refine wps_seq_k fun K2 hK2 => ?_
  refine wps_seq_k fun K1 hK1 => wps_regT tabG tabG_ok ?_; simp only [go_sem, Nat.reduceLeDiff, Nat.reducePow, Nat.reduceSub, Nat.reduceLT, Nat.reduceEqDiff, Nat.reduceAdd, Nat.reduceMul, ↓reduceIte, reduceCtorEq, tabG, tCopied, tTurned, deMeta_c, deEnt_c, deTab_c, deMap_c, eq25a]; (first | (refine hK1 _ ?_; clear hK1 K1) | (refine ⟨?_, hK1 _ ?_⟩ <;> clear hK1 K1; first | (· (simp; done)) | (· (simp +contextual; done)) | (· (simp +contextual; omega)) | (· grind) | skip))
  refine wps_cond (by simp only [go_sem, Nat.reduceLeDiff, Nat.reducePow, Nat.reduceSub, Nat.reduceLT, Nat.reduceEqDiff, Nat.reduceAdd, Nat.reduceMul, ↓reduceIte, reduceCtorEq, tabG, tCopied, tTurned, deMeta_c, deEnt_c, deTab_c, deMap_c]; rfl) (by simp) (fun hb => ?_) (fun hb => ?_)
  · refine wps_seq_k fun K1 hK1 => wps_regT tabG tabG_ok ?_; simp only [go_sem, Nat.reduceLeDiff, Nat.reducePow, Nat.reduceSub, Nat.reduceLT, Nat.reduceEqDiff, Nat.reduceAdd, Nat.reduceMul, ↓reduceIte, reduceCtorEq, tabG, tCopied, tTurned, deMeta_c, deEnt_c, deTab_c, deMap_c, bs57, ti57]; (first | (refine hK1 _ ?_; clear hK1 K1) | (refine ⟨?_, hK1 _ ?_⟩ <;> clear hK1 K1; first | (· (simp; done)) | (· (simp +contextual; done)) | (· (simp +contextual; omega)) | (· grind) | skip))
    simp only [wps, endQ, resV, resVs, resV1, go_sem, Nat.reduceLeDiff, Nat.reducePow, Nat.reduceSub, Nat.reduceLT, Nat.reduceEqDiff, Nat.reduceAdd, Nat.reduceMul, ↓reduceIte, reduceCtorEq, tabG, tCopied, tTurned, deMeta_c, deEnt_c, deTab_c, deMap_c, ti57]
  · simp at hb

theorem s25_nil (obj : B) (M : Heap) : Pure Tryz.prog 25 [.nilp, .str obj] M (.tup [.int .i64 0, .bool false]) := by
  refine Spec.strip (fun _ => false) ok25 (by simp) ?_
  unfold c25
  refine wps_seq_k fun K1 hK1 => wps_regT tabG tabG_ok ?_; simp only [go_sem, Nat.reduceLeDiff, Nat.reducePow, Nat.reduceSub, Nat.reduceLT, Nat.reduceEqDiff, Nat.reduceAdd, Nat.reduceMul, ↓reduceIte, reduceCtorEq, tabG, tCopied, tTurned, deMeta_c, deEnt_c, deTab_c, deMap_c]; (first | (refine hK1 _ ?_; clear hK1 K1) | (refine ⟨?_, hK1 _ ?_⟩ <;> clear hK1 K1; first | (· (simp; done)) | (· (simp +contextual; done)) | (· (simp +contextual; omega)) | (· grind) | skip))
  refine wps_seq_k fun K2 hK2 => ?_
  refine wps_seq_k fun K1 hK1 => wps_regT tabG tabG_ok ?_; simp only [go_sem, Nat.reduceLeDiff, Nat.reducePow, Nat.reduceSub, Nat.reduceLT, Nat.reduceEqDiff, Nat.reduceAdd, Nat.reduceMul, ↓reduceIte, reduceCtorEq, tabG, tCopied, tTurned, deMeta_c, deEnt_c, deTab_c, deMap_c, eq25a]; (first | (refine hK1 _ ?_; clear hK1 K1) | (refine ⟨?_, hK1 _ ?_⟩ <;> clear hK1 K1; first | (· (simp; done)) | (· (simp +contextual; done)) | (· (simp +contextual; omega)) | (· grind) | skip))
  refine wps_cond (by simp only [go_sem, Nat.reduceLeDiff, Nat.reducePow, Nat.reduceSub, Nat.reduceLT, Nat.reduceEqDiff, Nat.reduceAdd, Nat.reduceMul, ↓reduceIte, reduceCtorEq, tabG, tCopied, tTurned, deMeta_c, deEnt_c, deTab_c, deMap_c]; rfl) (by simp) (fun hb => ?_) (fun hb => ?_)
  · refine wps_seq_k fun K1 hK1 => wps_regT tabG tabG_ok ?_; simp only [go_sem, Nat.reduceLeDiff, Nat.reducePow, Nat.reduceSub, Nat.reduceLT, Nat.reduceEqDiff, Nat.reduceAdd, Nat.reduceMul, ↓reduceIte, reduceCtorEq, tabG, tCopied, tTurned, deMeta_c, deEnt_c, deTab_c, deMap_c]; (first | (refine hK1 _ ?_; clear hK1 K1) | (refine ⟨?_, hK1 _ ?_⟩ <;> clear hK1 K1; first | (· (simp; done)) | (· (simp +contextual; done)) | (· (simp +contextual; omega)) | (· grind) | skip))
    simp only [wps, endQ, resV, resVs, resV1, go_sem, Nat.reduceLeDiff, Nat.reducePow, Nat.reduceSub, Nat.reduceLT, Nat.reduceEqDiff, Nat.reduceAdd, Nat.reduceMul, ↓reduceIte, reduceCtorEq, tabG, tCopied, tTurned, deMeta_c, deEnt_c, deTab_c, deMap_c]
  · simp at hb

/-- maps.Keys: a function value over one new block. -/
theorem s70 (ol : Nat) (M : Heap) :
    Spec Tryz.prog 70 [.map ol] M fun r M' => ∃ ok, M ok = none ∧ r = .fn (.func 120) [] [.ptr ok 0] ∧ M' = updH M ok (.cells [.map ol]) := by
  refine Spec.strip (escL [1]) ok70 (by simp) ?_
  unfold c70
  refine wps_seq_k fun K1 hK1 => wps_regT tabG tabG_ok ?_; simp only [go_sem, Nat.reduceLeDiff, Nat.reducePow, Nat.reduceSub, Nat.reduceLT, Nat.reduceEqDiff, Nat.reduceAdd, Nat.reduceMul, ↓reduceIte, reduceCtorEq, tabG, tCopied, tTurned, deMeta_c, deEnt_c, deTab_c, deMap_c]; (first | (with_reducible refine oss_obl ?_ ?_; first | (· (simp; done)) | (· (simp +contextual; done)) | (· (simp +contextual; omega)) | (· grind) | skip) | skip)
  refine oss_op rfl rfl ?_; simp only [opw, SO.oper, go_sem, Nat.reduceLeDiff, Nat.reducePow, Nat.reduceSub, Nat.reduceLT, Nat.reduceEqDiff, Nat.reduceAdd, Nat.reduceMul, ↓reduceIte, reduceCtorEq, tabG, tCopied, tTurned, deMeta_c, deEnt_c, deTab_c, deMap_c]
  intro ok hok
  refine oss_runT tabG tabG_ok ?_; simp only [go_sem, Nat.reduceLeDiff, Nat.reducePow, Nat.reduceSub, Nat.reduceLT, Nat.reduceEqDiff, Nat.reduceAdd, Nat.reduceMul, ↓reduceIte, reduceCtorEq, tabG, tCopied, tTurned, deMeta_c, deEnt_c, deTab_c, deMap_c]
  refine hK1 _ ?_; clear hK1 K1
  refine wps_seq_k fun K1 hK1 => wps_regT tabG tabG_ok ?_; simp only [go_sem, Nat.reduceLeDiff, Nat.reducePow, Nat.reduceSub, Nat.reduceLT, Nat.reduceEqDiff, Nat.reduceAdd, Nat.reduceMul, ↓reduceIte, reduceCtorEq, tabG, tCopied, tTurned, deMeta_c, deEnt_c, deTab_c, deMap_c]; (first | (refine hK1 _ ?_; clear hK1 K1) | (refine ⟨?_, hK1 _ ?_⟩ <;> clear hK1 K1; first | (· (simp; done)) | (· (simp +contextual; done)) | (· (simp +contextual; omega)) | (· grind) | skip))
  simp only [wps, endQ, resV, resVs, resV1, go_sem, Nat.reduceLeDiff, Nat.reducePow, Nat.reduceSub, Nat.reduceLT, Nat.reduceEqDiff, Nat.reduceAdd, Nat.reduceMul, ↓reduceIte, reduceCtorEq, tabG, tCopied, tTurned, deMeta_c, deEnt_c, deTab_c, deMap_c]
  exact ⟨ok, hok, rfl, rfl⟩

end Go.Eng.Tryz

/- Contracts of chapter 42: the numbers of an object's versions. -/
namespace Go.Eng.Tryz
open Go.Proofs
attribute [local go_sem] oss_nil_eq Int.toNat_natCast maxLen Nat.zero_le run step opv slotV opvs dstLt evalQ constV isA setD upd_app guardB List.getD_cons_zero List.getD_cons_succ List.getD_nil V.tag V.cells decide_true decide_false Bool.false_eq_true if_false if_true ne_eq Nat.one_ne_zero not_false_eq_true keyKind cellOk List.forall_mem_cons List.not_mem_nil false_implies true_and and_true implies_true forall_const bump addrAdd loadA loadV part opV binV eqlV eqOk pickV unV convV boundV fillV storeTo splice List.getElem?_cons_zero List.getElem?_cons_succ List.take_succ_cons List.take_zero List.drop_succ_cons List.drop_zero List.length_cons List.length_nil List.cons_append List.nil_append List.append_nil List.getElem_toArray List.getElem?_toArray List.size_toArray and_self eqV_tupl eqV_tupr fbt tbf beq_self_eq_true Bool.not_false Bool.not_true cond_true cond_false newVarW updH_self updH_updH isFuncFn runT stepT stepC isCallV callOf callV escL memN runW stepW stepCW runD stepD safeB slots ownS stepOwn reads runM stepM emptyH softEq V.soft softs readSl chunks partsV delKV slice0V stepE runE
set_option linter.unusedSimpArgs false
set_option linter.unusedVariables false

def il (S : List Int) : List (List V) := S.map fun k => [.int .i64 k]
theorem il_len (S : List Int) : (il S).length = S.length := by simp [il]
theorem il_get {S : List Int} {k : Nat} (h : k < S.length) : (il S).getD k [] = [.int .i64 (S.getD k 0)] := by
  simp [il, List.getD_eq_getElem?_getD, h]
theorem il_refs (M : Heap) (S : List Int) : refsOkss M (il S) :=
  refsOkss_of fun e he => by
    simp only [il, List.mem_map] at he
    obtain ⟨k, _, rfl⟩ := he
    simp [refsOks, refsOk]

/-- A table on the heap. -/
structure TabAt (M : Heap) (ot ol on : Nat) (next : Int) (L : List (Int × KD)) (N : List (B × Int × Int)) : Prop where
  hT : M ot = some (.cells [.map ol, .map on, .int .i64 next])
  hN : M on = some (.map (strKV nV N))
  hL : M ol = some (.map (intKV kV L))
  hK : ∀ p ∈ L, M p.2.o = some (.cells (knownL p.2.e p.2.has))

def SortsKeys (S : List Int) (ol : Nat) (L : List (Int × KD)) : Prop :=
  ∀ (ok : Nat) (M : Heap), M ok = some (.cells [.map ol]) → M ol = some (.map (intKV kV L)) → Pure Tryz.prog 69 [.fn (.func 120) [] [.ptr ok 0]] M (.lst (il S))

def idsQ (L : List (Int × KD)) (obj : B) (S : List Int) : List Int := S.filter fun id => match L.lookup id with
  | some a => a.e.obj == obj
  | none => false

theorem s79 (S : List Int) (ot ol on : Nat) (next : Int) (L : List (Int × KD)) (N : List (B × Int × Int)) (obj : B) (M : Heap) (h : TabAt M ot ol on next L N) (hS : SortsKeys S ol L) (hin : ∀ id ∈ S, ∃ a, (id, a) ∈ L ∧ L.lookup id = some a) (hlen : S.length * 8 ≤ 140737488355328) :
    Pure Tryz.prog 79 [.ptr ot 0, .str obj] M (.lst (il (idsQ L obj S))) := by
  refine Spec.own (sz := 1) (es := il (idsQ L obj S)) (Spec.strip (fun _ => false) ok79 (by simp) ?_) (il_refs _ _)
  unfold c79
  have hT := h.hT
  have hLm := h.hL
  refine wps_seq_k fun K1 hK1 => wps_reg ?_; simp only [go_sem, Nat.reduceLeDiff, Nat.reducePow, Nat.reduceSub, Nat.reduceLT, Nat.reduceEqDiff, Nat.reduceAdd, Nat.reduceMul, ↓reduceIte, reduceCtorEq]; (first | (refine hK1 _ ?_; clear hK1 K1) | (refine ⟨?_, hK1 _ ?_⟩ <;> clear hK1 K1; first | (· (simp; done)) | (· (simp +contextual; done)) | (· (simp +contextual; omega)) | (· grind) | skip))
  refine wps_seq_k fun K1 hK1 => wps_reg ?_; simp only [go_sem, Nat.reduceLeDiff, Nat.reducePow, Nat.reduceSub, Nat.reduceLT, Nat.reduceEqDiff, Nat.reduceAdd, Nat.reduceMul, ↓reduceIte, reduceCtorEq]; (first | (refine hK1 _ ?_; clear hK1 K1) | (refine ⟨?_, hK1 _ ?_⟩ <;> clear hK1 K1; first | (· (simp; done)) | (· (simp +contextual; done)) | (· (simp +contextual; omega)) | (· grind) | skip))
  refine wps_seq_k fun K2 hK2 => ?_
  refine wps_seq_k fun K1 hK1 => wps_reg ?_; simp only [go_sem, Nat.reduceLeDiff, Nat.reducePow, Nat.reduceSub, Nat.reduceLT, Nat.reduceEqDiff, Nat.reduceAdd, Nat.reduceMul, ↓reduceIte, reduceCtorEq, fi107_0, ti104, hT]; (first | (with_reducible refine oss_obl ?_ ?_; first | (· (simp; done)) | (· (simp +contextual; done)) | (· (simp +contextual; omega)) | (· grind) | skip) | skip)
  refine oss_call rfl (by simp only [go_sem, Nat.reduceLeDiff, Nat.reducePow, Nat.reduceSub, Nat.reduceLT, Nat.reduceEqDiff, Nat.reduceAdd, Nat.reduceMul, ↓reduceIte, reduceCtorEq]; rfl) (by simp) (s70 ol M) ?_; rintro _ _ ⟨okk, hok, rfl, rfl⟩
  have hkeep : Keeps M (updH M okk (.cells [.map ol])) := fun o x hx => by
    simp only [updH]; split
    · rename_i e; rw [e, hok] at hx; cases hx
    · exact hx
  obtain ⟨M1, hM1⟩ : ∃ M1, updH M okk (.cells [.map ol]) = M1 := ⟨_, rfl⟩
  have hok1 : M1 okk = some (.cells [.map ol]) := by rw [← hM1]; simp [updH]
  rw [hM1] at hkeep ⊢
  refine oss_call rfl (by simp only [go_sem, Nat.reduceLeDiff, Nat.reducePow, Nat.reduceSub, Nat.reduceLT, Nat.reduceEqDiff, Nat.reduceAdd, Nat.reduceMul, ↓reduceIte, reduceCtorEq]; rfl) (by simp) (hS okk M1 hok1 (hkeep _ _ hLm)) ?_; rintro _ _ ⟨rfl, rfl⟩
  refine oss_run ?_; simp only [go_sem, Nat.reduceLeDiff, Nat.reducePow, Nat.reduceSub, Nat.reduceLT, Nat.reduceEqDiff, Nat.reduceAdd, Nat.reduceMul, ↓reduceIte, reduceCtorEq, und89, il_len]; (first | (refine hK1 _ ?_; clear hK1 K1) | (refine ⟨?_, hK1 _ ?_⟩ <;> clear hK1 K1; first | (· (simp; done)) | (· (simp +contextual; done)) | (· (simp +contextual; omega)) | (· grind) | skip))
  refine wps_block (wps_count 15 S.length (fun k st => ∃ v, Keeps M st.M ∧ st.fr 5 = v ∧ Own st.M 1 v (il (idsQ L obj (S.take k))) ∧ (∀ o, v.obj = some o → M o = none) ∧ st.fr 0 = .ptr ot 0 ∧ st.fr 1 = .str obj ∧ st.fr 13 = .lst (il S) ∧ st.fr 14 = .int .i64 S.length) ?_ ?_)
  · refine ⟨0, by simp, by simp only [go_sem, Nat.reduceLeDiff, Nat.reducePow, Nat.reduceSub, Nat.reduceLT, Nat.reduceEqDiff, Nat.reduceAdd, Nat.reduceMul, ↓reduceIte, reduceCtorEq]; rfl, .nils, hkeep, by simp only [go_sem, Nat.reduceLeDiff, Nat.reducePow, Nat.reduceSub, Nat.reduceLT, Nat.reduceEqDiff, Nat.reduceAdd, Nat.reduceMul, ↓reduceIte, reduceCtorEq], by simpa [idsQ, il] using Own.nils _ 1, by simp [V.obj], ?_, ?_, ?_, ?_⟩ <;> simp only [go_sem, Nat.reduceLeDiff, Nat.reducePow, Nat.reduceSub, Nat.reduceLT, Nat.reduceEqDiff, Nat.reduceAdd, Nat.reduceMul, ↓reduceIte, reduceCtorEq]
  · rintro k fr M2 gen hk hi ⟨v, hkp, h5, hown, hfree, h0, h1, h13, h14⟩
    simp only at hkp h5 hown h0 h1 h13 h14 hi
    refine wps_seq_k fun K1 hK1 => wps_reg ?_; simp only [go_sem, Nat.reduceLeDiff, Nat.reducePow, Nat.reduceSub, Nat.reduceLT, Nat.reduceEqDiff, Nat.reduceAdd, Nat.reduceMul, ↓reduceIte, reduceCtorEq, hi, h14]; (first | (refine hK1 _ ?_; clear hK1 K1) | (refine ⟨?_, hK1 _ ?_⟩ <;> clear hK1 K1; first | (· (simp; done)) | (· (simp +contextual; done)) | (· (simp +contextual; omega)) | (· grind) | skip))
    refine wps_seq_k fun K3 hK3 => ?_
    refine wps_cond (by simp only [go_sem, Nat.reduceLeDiff, Nat.reducePow, Nat.reduceSub, Nat.reduceLT, Nat.reduceEqDiff, Nat.reduceAdd, Nat.reduceMul, ↓reduceIte, reduceCtorEq]; rfl) (by simp) (fun hb => ?_) (fun hb => ?_)
    · refine hK3 _ ?_; clear hK3 K3
      simp only [decide_eq_true_eq] at hb
      have hk' : k < S.length := by omega
      have hg := il_get hk'
      obtain ⟨a, ha, hla⟩ := hin (S.getD k 0) (by rw [List.getD_eq_getElem?_getD, List.getElem?_eq_getElem hk']; simp)
      have hLm2 := hkp _ _ hLm
      have hlk : ∀ ok, lookupV Tryz.prog M2 104 (.map ol) (.int .i64 (S.getD k 0)) ok = _ := fun ok => look_int_some und104 und2 hLm2 hla
      have hT2 := hkp _ _ hT
      have hka := hkp _ _ (h.hK _ ha)
      simp only [knownL] at hka
      refine wps_seq_k fun K4 hK4 => ?_
      refine wps_block ?_
      refine wps_seq_k fun K1 hK1 => wps_reg ?_; simp only [go_sem, Nat.reduceLeDiff, Nat.reducePow, Nat.reduceSub, Nat.reduceLT, Nat.reduceEqDiff, Nat.reduceAdd, Nat.reduceMul, ↓reduceIte, reduceCtorEq, und89, ti2, h13, hi, hg, il_len]; (first | (refine hK1 _ ?_; clear hK1 K1) | (refine ⟨?_, hK1 _ ?_⟩ <;> clear hK1 K1; first | (· (simp; done)) | (· (simp +contextual; done)) | (· (simp +contextual; omega)) | (· grind) | skip))
      refine wps_seq_k fun K1 hK1 => wps_reg ?_; simp only [go_sem, Nat.reduceLeDiff, Nat.reducePow, Nat.reduceSub, Nat.reduceLT, Nat.reduceEqDiff, Nat.reduceAdd, Nat.reduceMul, ↓reduceIte, reduceCtorEq, fi107_0, ti104, fi110_0, fi57_1, ti9, und2, und9, hT2, hlk, hka, h0, h1]; (first | (refine hK1 _ ?_; clear hK1 K1) | (refine ⟨?_, hK1 _ ?_⟩ <;> clear hK1 K1; first | (· (simp; done)) | (· (simp +contextual; done)) | (· (simp +contextual; omega)) | (· grind) | skip))
      refine wps_cond (by simp only [go_sem, Nat.reduceLeDiff, Nat.reducePow, Nat.reduceSub, Nat.reduceLT, Nat.reduceEqDiff, Nat.reduceAdd, Nat.reduceMul, ↓reduceIte, reduceCtorEq]; rfl) (by simp) (fun hb => ?_) (fun hb => ?_)
      · have htk : idsQ L obj (S.take (k + 1)) = idsQ L obj (S.take k) ++ [S.getD k 0] := by
          rw [List.take_succ_eq_append_getElem hk', List.getD_eq_getElem?_getD, List.getElem?_eq_getElem hk']
          rw [List.getD_eq_getElem?_getD, List.getElem?_eq_getElem hk'] at hla
          simp only [idsQ, List.filter_append, List.filter_cons, List.filter_nil, Option.getD_some] at hla ⊢
          rw [hla]
          simp only [hb, if_true]
        refine wps_reg ?_; simp only [go_sem, Nat.reduceLeDiff, Nat.reducePow, Nat.reduceSub, Nat.reduceLT, Nat.reduceEqDiff, Nat.reduceAdd, Nat.reduceMul, ↓reduceIte, reduceCtorEq, h5, own_slot hown]; (first | (with_reducible refine oss_obl ?_ ?_; first | (· (simp; done)) | (· (simp +contextual; done)) | (· (simp +contextual; omega)) | (· grind) | skip) | skip)
        refine oss_build (by rfl) und89 ti2 (by simp only [go_sem, Nat.reduceLeDiff, Nat.reducePow, Nat.reduceSub, Nat.reduceLT, Nat.reduceEqDiff, Nat.reduceAdd, Nat.reduceMul, ↓reduceIte, reduceCtorEq]; rfl) (by simp [V.tag, cellOk, V.cells]) (by simp) (by simp) (by simp) zero2 (by simp [V.cells]) rfl ?_
        have hlen2 : (idsQ L obj (S.take k)).length ≤ k := by
          have h1 := List.length_filter_le (fun id => match L.lookup id with
            | some a => a.e.obj == obj
            | none => false) (S.take k)
          simp only [List.length_take] at h1
          simp only [idsQ]; omega
        refine oss_append (by rfl) und89 el2 (by simp only [go_sem, Nat.reduceLeDiff, Nat.reducePow, Nat.reduceSub, Nat.reduceLT, Nat.reduceEqDiff, Nat.reduceAdd, Nat.reduceMul, ↓reduceIte, reduceCtorEq]; exact own_slot hown _) trivial (by simp only [go_sem, Nat.reduceLeDiff, Nat.reducePow, Nat.reduceSub, Nat.reduceLT, Nat.reduceEqDiff, Nat.reduceAdd, Nat.reduceMul, ↓reduceIte, reduceCtorEq]; rfl) (by simp) (by simp only [go_sem, Nat.reduceLeDiff, Nat.reducePow, Nat.reduceSub, Nat.reduceLT, Nat.reduceEqDiff, Nat.reduceAdd, Nat.reduceMul, ↓reduceIte, reduceCtorEq]; rfl) (by simp) hown (by simp [go_sem, Nat.reduceLeDiff, Nat.reducePow, Nat.reduceSub, Nat.reduceLT, Nat.reduceEqDiff, Nat.reduceAdd, Nat.reduceMul, ↓reduceIte, reduceCtorEq]) (by simp [il_len, maxLen]; omega) (by simp [il_len]; omega) ?_
        intro v' M' q1 q2 q3
        have hkp2 := Keeps.own hkp hfree q2 q3
        refine oss_run ?_; simp only [go_sem, Nat.reduceLeDiff, Nat.reducePow, Nat.reduceSub, Nat.reduceLT, Nat.reduceEqDiff, Nat.reduceAdd, Nat.reduceMul, ↓reduceIte, reduceCtorEq, own_slot q1]
        refine hK4 _ ?_; clear hK4 K4
        refine wps_reg ?_; simp only [go_sem, Nat.reduceLeDiff, Nat.reducePow, Nat.reduceSub, Nat.reduceLT, Nat.reduceEqDiff, Nat.reduceAdd, Nat.reduceMul, ↓reduceIte, reduceCtorEq, hi]
        exact ⟨hk', by rw [IntWalk.i64_in _ (by omega)], v', hkp2.1, rfl, by simpa [htk, il] using q1, hkp2.2, h0, h1, h13, h14⟩
      · refine hK4 _ ?_; clear hK4 K4
        have htk : idsQ L obj (S.take (k + 1)) = idsQ L obj (S.take k) := by
          rw [List.take_succ_eq_append_getElem hk']
          rw [List.getD_eq_getElem?_getD, List.getElem?_eq_getElem hk'] at hla
          simp only [idsQ, List.filter_append, List.filter_cons, List.filter_nil, Option.getD_some] at hla ⊢
          rw [hla]
          simp [hb]
        refine wps_reg ?_; simp only [go_sem, Nat.reduceLeDiff, Nat.reducePow, Nat.reduceSub, Nat.reduceLT, Nat.reduceEqDiff, Nat.reduceAdd, Nat.reduceMul, ↓reduceIte, reduceCtorEq, hi]
        exact ⟨hk', by rw [IntWalk.i64_in _ (by omega)], v, hkp, h5, by rw [htk]; exact hown, hfree, h0, h1, h13, h14⟩
    · refine hK2 _ ?_
      clear hK3 K3
      have hkS : k = S.length := by simp at hb; omega
      subst hkS
      rw [List.take_length] at hown
      refine wps_seq_k fun K1 hK1 => wps_reg ?_; simp only [go_sem, Nat.reduceLeDiff, Nat.reducePow, Nat.reduceSub, Nat.reduceLT, Nat.reduceEqDiff, Nat.reduceAdd, Nat.reduceMul, ↓reduceIte, reduceCtorEq, h5, own_slot hown]; (first | (refine hK1 _ ?_; clear hK1 K1) | (refine ⟨?_, hK1 _ ?_⟩ <;> clear hK1 K1; first | (· (simp; done)) | (· (simp +contextual; done)) | (· (simp +contextual; omega)) | (· grind) | skip))
      simp only [wps, endQ, resV, resVs, resV1, go_sem, Nat.reduceLeDiff, Nat.reducePow, Nat.reduceSub, Nat.reduceLT, Nat.reduceEqDiff, Nat.reduceAdd, Nat.reduceMul, ↓reduceIte, reduceCtorEq, own_slot hown]
      exact ⟨own_tag hown, hown, hfree, hkp⟩

end Go.Eng.Tryz

/- Contracts of chapter 42: of no table nothing is told. -/
namespace Go.Eng.Tryz
open Go.Proofs
attribute [local go_sem] oss_nil_eq Int.toNat_natCast maxLen Nat.zero_le run step opv slotV opvs dstLt evalQ constV isA setD upd_app guardB List.getD_cons_zero List.getD_cons_succ List.getD_nil V.tag V.cells decide_true decide_false Bool.false_eq_true if_false if_true ne_eq Nat.one_ne_zero not_false_eq_true keyKind cellOk List.forall_mem_cons List.not_mem_nil false_implies true_and and_true implies_true forall_const bump addrAdd loadA loadV part opV binV eqlV eqOk pickV unV convV boundV fillV storeTo splice List.getElem?_cons_zero List.getElem?_cons_succ List.take_succ_cons List.take_zero List.drop_succ_cons List.drop_zero List.length_cons List.length_nil List.cons_append List.nil_append List.append_nil List.getElem_toArray List.getElem?_toArray List.size_toArray and_self eqV_tupl eqV_tupr fbt tbf beq_self_eq_true Bool.not_false Bool.not_true cond_true cond_false newVarW updH_self updH_updH isFuncFn runT stepT stepC isCallV callOf callV escL memN runW stepW stepCW runD stepD safeB slots ownS stepOwn reads runM stepM emptyH softEq V.soft softs readSl chunks partsV delKV slice0V stepE runE
set_option linter.unusedSimpArgs false
set_option linter.unusedVariables false

def tabR : Tab := fun M id vs => match id, vs with
  | 77, [.agg [.int .i64 a, .int .i64 b, .int .i64 c]] => some (True, .bool (cnt a && (cnt b && cnt c)))
  | 129, [.agg [.int .i64 x, .int .i64 y]] => some (True, .bool (decide (0 ≤ x) && (decide (x ≤ y) && decide (y ≤ 4611686018427387904))))
  | _, _ => none
theorem tabR_ok : TabOk Tryz.prog tabR := by
  intro M id vs g r h hg
  unfold tabR at h
  split at h <;> (try simp only [Option.some.injEq, Prod.mk.injEq, reduceCtorEq] at h) <;> (try (obtain ⟨rfl, rfl⟩ := h))
  · exact s77 _ _ _ _
  · exact s129 _ _ _

theorem s28_nil (id a b c : Int) (M : Heap) : Pure Tryz.prog 28 [.nilp, .int .i64 id, .agg [.int .i64 a, .int .i64 b, .int .i64 c]] M (.int .i64 1) := by
  refine Spec.strip (fun _ => false) ok28 (by simp) ?_
  unfold c28
  refine wps_seq_k fun K1 hK1 => wps_regT tabR tabR_ok ?_; simp only [go_sem, Nat.reduceLeDiff, Nat.reducePow, Nat.reduceSub, Nat.reduceLT, Nat.reduceEqDiff, Nat.reduceAdd, Nat.reduceMul, ↓reduceIte, reduceCtorEq, tabR]; (first | (refine hK1 _ ?_; clear hK1 K1) | (refine ⟨?_, hK1 _ ?_⟩ <;> clear hK1 K1; first | (· (simp; done)) | (· (simp +contextual; done)) | (· (simp +contextual; omega)) | (· grind) | skip))
  refine wps_seq_k fun K2 hK2 => ?_
  refine wps_seq_k fun K1 hK1 => wps_regT tabR tabR_ok ?_; simp only [go_sem, Nat.reduceLeDiff, Nat.reducePow, Nat.reduceSub, Nat.reduceLT, Nat.reduceEqDiff, Nat.reduceAdd, Nat.reduceMul, ↓reduceIte, reduceCtorEq, tabR, eq25a, ti74]; (first | (refine hK1 _ ?_; clear hK1 K1) | (refine ⟨?_, hK1 _ ?_⟩ <;> clear hK1 K1; first | (· (simp; done)) | (· (simp +contextual; done)) | (· (simp +contextual; omega)) | (· grind) | skip))
  refine wps_cond (by simp only [go_sem, Nat.reduceLeDiff, Nat.reducePow, Nat.reduceSub, Nat.reduceLT, Nat.reduceEqDiff, Nat.reduceAdd, Nat.reduceMul, ↓reduceIte, reduceCtorEq, tabR]; rfl) (by simp) (fun hb => ?_) (fun hb => ?_)
  · refine wps_seq_k fun K1 hK1 => wps_regT tabR tabR_ok ?_; simp only [go_sem, Nat.reduceLeDiff, Nat.reducePow, Nat.reduceSub, Nat.reduceLT, Nat.reduceEqDiff, Nat.reduceAdd, Nat.reduceMul, ↓reduceIte, reduceCtorEq, tabR]; (first | (refine hK1 _ ?_; clear hK1 K1) | (refine ⟨?_, hK1 _ ?_⟩ <;> clear hK1 K1; first | (· (simp; done)) | (· (simp +contextual; done)) | (· (simp +contextual; omega)) | (· grind) | skip))
    simp only [wps, endQ, resV, resVs, resV1, go_sem, Nat.reduceLeDiff, Nat.reducePow, Nat.reduceSub, Nat.reduceLT, Nat.reduceEqDiff, Nat.reduceAdd, Nat.reduceMul, ↓reduceIte, reduceCtorEq, tabR]
  · simp at hb
theorem s29_nil (obj : B) (a b c : Int) (M : Heap) : Pure Tryz.prog 29 [.nilp, .str obj, .agg [.int .i64 a, .int .i64 b, .int .i64 c]] M .nils := by
  refine Spec.strip (fun _ => false) ok29 (by simp) ?_
  unfold c29
  refine wps_seq_k fun K1 hK1 => wps_regT tabR tabR_ok ?_; simp only [go_sem, Nat.reduceLeDiff, Nat.reducePow, Nat.reduceSub, Nat.reduceLT, Nat.reduceEqDiff, Nat.reduceAdd, Nat.reduceMul, ↓reduceIte, reduceCtorEq, tabR]; (first | (refine hK1 _ ?_; clear hK1 K1) | (refine ⟨?_, hK1 _ ?_⟩ <;> clear hK1 K1; first | (· (simp; done)) | (· (simp +contextual; done)) | (· (simp +contextual; omega)) | (· grind) | skip))
  refine wps_seq_k fun K2 hK2 => ?_
  refine wps_seq_k fun K1 hK1 => wps_regT tabR tabR_ok ?_; simp only [go_sem, Nat.reduceLeDiff, Nat.reducePow, Nat.reduceSub, Nat.reduceLT, Nat.reduceEqDiff, Nat.reduceAdd, Nat.reduceMul, ↓reduceIte, reduceCtorEq, tabR, eq25a, ti74, ti25]; (first | (refine hK1 _ ?_; clear hK1 K1) | (refine ⟨?_, hK1 _ ?_⟩ <;> clear hK1 K1; first | (· (simp; done)) | (· (simp +contextual; done)) | (· (simp +contextual; omega)) | (· grind) | skip))
  refine wps_cond (by simp only [go_sem, Nat.reduceLeDiff, Nat.reducePow, Nat.reduceSub, Nat.reduceLT, Nat.reduceEqDiff, Nat.reduceAdd, Nat.reduceMul, ↓reduceIte, reduceCtorEq, tabR]; rfl) (by simp) (fun hb => ?_) (fun hb => ?_)
  · refine wps_seq_k fun K1 hK1 => wps_regT tabR tabR_ok ?_; simp only [go_sem, Nat.reduceLeDiff, Nat.reducePow, Nat.reduceSub, Nat.reduceLT, Nat.reduceEqDiff, Nat.reduceAdd, Nat.reduceMul, ↓reduceIte, reduceCtorEq, tabR]; (first | (refine hK1 _ ?_; clear hK1 K1) | (refine ⟨?_, hK1 _ ?_⟩ <;> clear hK1 K1; first | (· (simp; done)) | (· (simp +contextual; done)) | (· (simp +contextual; omega)) | (· grind) | skip))
    simp only [wps, endQ, resV, resVs, resV1, go_sem, Nat.reduceLeDiff, Nat.reducePow, Nat.reduceSub, Nat.reduceLT, Nat.reduceEqDiff, Nat.reduceAdd, Nat.reduceMul, ↓reduceIte, reduceCtorEq, tabR]
  · simp at hb
theorem s18_nil (obj : B) (a b c : Int) (lo : Nat) (M : Heap) : Pure Tryz.prog 18 [.nilp, .str obj, .agg [.int .i64 a, .int .i64 b, .int .i64 c], .ptr lo 0] M (.tup [.int .i64 0, .int .i64 4]) := by
  refine Spec.strip (fun _ => false) ok18 (by simp) ?_
  unfold c18
  refine wps_seq_k fun K1 hK1 => wps_regT tabR tabR_ok ?_; simp only [go_sem, Nat.reduceLeDiff, Nat.reducePow, Nat.reduceSub, Nat.reduceLT, Nat.reduceEqDiff, Nat.reduceAdd, Nat.reduceMul, ↓reduceIte, reduceCtorEq, tabR]; (first | (refine hK1 _ ?_; clear hK1 K1) | (refine ⟨?_, hK1 _ ?_⟩ <;> clear hK1 K1; first | (· (simp; done)) | (· (simp +contextual; done)) | (· (simp +contextual; omega)) | (· grind) | skip))
  refine wps_seq_k fun K2 hK2 => ?_
  refine wps_seq_k fun K1 hK1 => wps_regT tabR tabR_ok ?_; simp only [go_sem, Nat.reduceLeDiff, Nat.reducePow, Nat.reduceSub, Nat.reduceLT, Nat.reduceEqDiff, Nat.reduceAdd, Nat.reduceMul, ↓reduceIte, reduceCtorEq, tabR, eq25a]; (first | (refine hK1 _ ?_; clear hK1 K1) | (refine ⟨?_, hK1 _ ?_⟩ <;> clear hK1 K1; first | (· (simp; done)) | (· (simp +contextual; done)) | (· (simp +contextual; omega)) | (· grind) | skip))
  refine wps_cond (by simp only [go_sem, Nat.reduceLeDiff, Nat.reducePow, Nat.reduceSub, Nat.reduceLT, Nat.reduceEqDiff, Nat.reduceAdd, Nat.reduceMul, ↓reduceIte, reduceCtorEq, tabR]; rfl) (by simp) (fun hb => ?_) (fun hb => ?_)
  · refine wps_seq_k fun K1 hK1 => wps_regT tabR tabR_ok ?_; simp only [go_sem, Nat.reduceLeDiff, Nat.reducePow, Nat.reduceSub, Nat.reduceLT, Nat.reduceEqDiff, Nat.reduceAdd, Nat.reduceMul, ↓reduceIte, reduceCtorEq, tabR]; (first | (refine hK1 _ ?_; clear hK1 K1) | (refine ⟨?_, hK1 _ ?_⟩ <;> clear hK1 K1; first | (· (simp; done)) | (· (simp +contextual; done)) | (· (simp +contextual; omega)) | (· grind) | skip))
    simp only [wps, endQ, resV, resVs, resV1, go_sem, Nat.reduceLeDiff, Nat.reducePow, Nat.reduceSub, Nat.reduceLT, Nat.reduceEqDiff, Nat.reduceAdd, Nat.reduceMul, ↓reduceIte, reduceCtorEq, tabR]
  · simp at hb
theorem s33_nil (id : Int) (M : Heap) : Pure Tryz.prog 33 [.nilp, .int .i64 id] M (.bool false) := by
  refine Spec.strip (fun _ => false) ok33 (by simp) ?_
  unfold c33
  refine wps_seq_k fun K1 hK1 => wps_regT tabR tabR_ok ?_; simp only [go_sem, Nat.reduceLeDiff, Nat.reducePow, Nat.reduceSub, Nat.reduceLT, Nat.reduceEqDiff, Nat.reduceAdd, Nat.reduceMul, ↓reduceIte, reduceCtorEq, tabR]; (first | (refine hK1 _ ?_; clear hK1 K1) | (refine ⟨?_, hK1 _ ?_⟩ <;> clear hK1 K1; first | (· (simp; done)) | (· (simp +contextual; done)) | (· (simp +contextual; omega)) | (· grind) | skip))
  refine wps_seq_k fun K2 hK2 => ?_
  refine wps_seq_k fun K1 hK1 => wps_regT tabR tabR_ok ?_; simp only [go_sem, Nat.reduceLeDiff, Nat.reducePow, Nat.reduceSub, Nat.reduceLT, Nat.reduceEqDiff, Nat.reduceAdd, Nat.reduceMul, ↓reduceIte, reduceCtorEq, tabR, eq25a]; (first | (refine hK1 _ ?_; clear hK1 K1) | (refine ⟨?_, hK1 _ ?_⟩ <;> clear hK1 K1; first | (· (simp; done)) | (· (simp +contextual; done)) | (· (simp +contextual; omega)) | (· grind) | skip))
  refine wps_cond (by simp only [go_sem, Nat.reduceLeDiff, Nat.reducePow, Nat.reduceSub, Nat.reduceLT, Nat.reduceEqDiff, Nat.reduceAdd, Nat.reduceMul, ↓reduceIte, reduceCtorEq, tabR]; rfl) (by simp) (fun hb => ?_) (fun hb => ?_)
  · refine wps_seq_k fun K1 hK1 => wps_regT tabR tabR_ok ?_; simp only [go_sem, Nat.reduceLeDiff, Nat.reducePow, Nat.reduceSub, Nat.reduceLT, Nat.reduceEqDiff, Nat.reduceAdd, Nat.reduceMul, ↓reduceIte, reduceCtorEq, tabR]; (first | (refine hK1 _ ?_; clear hK1 K1) | (refine ⟨?_, hK1 _ ?_⟩ <;> clear hK1 K1; first | (· (simp; done)) | (· (simp +contextual; done)) | (· (simp +contextual; omega)) | (· grind) | skip))
    simp only [wps, endQ, resV, resVs, resV1, go_sem, Nat.reduceLeDiff, Nat.reducePow, Nat.reduceSub, Nat.reduceLT, Nat.reduceEqDiff, Nat.reduceAdd, Nat.reduceMul, ↓reduceIte, reduceCtorEq, tabR]
  · simp at hb
theorem s24_nil (M : Heap) : Pure Tryz.prog 24 [.nilp] M .nils := by
  refine Spec.strip (fun _ => false) ok24 (by simp) ?_
  unfold c24
  refine wps_seq_k fun K1 hK1 => wps_regT tabR tabR_ok ?_; simp only [go_sem, Nat.reduceLeDiff, Nat.reducePow, Nat.reduceSub, Nat.reduceLT, Nat.reduceEqDiff, Nat.reduceAdd, Nat.reduceMul, ↓reduceIte, reduceCtorEq, tabR]; (first | (refine hK1 _ ?_; clear hK1 K1) | (refine ⟨?_, hK1 _ ?_⟩ <;> clear hK1 K1; first | (· (simp; done)) | (· (simp +contextual; done)) | (· (simp +contextual; omega)) | (· grind) | skip))
  refine wps_seq_k fun K2 hK2 => ?_
  refine wps_seq_k fun K1 hK1 => wps_regT tabR tabR_ok ?_; simp only [go_sem, Nat.reduceLeDiff, Nat.reducePow, Nat.reduceSub, Nat.reduceLT, Nat.reduceEqDiff, Nat.reduceAdd, Nat.reduceMul, ↓reduceIte, reduceCtorEq, tabR, eq25a]; (first | (refine hK1 _ ?_; clear hK1 K1) | (refine ⟨?_, hK1 _ ?_⟩ <;> clear hK1 K1; first | (· (simp; done)) | (· (simp +contextual; done)) | (· (simp +contextual; omega)) | (· grind) | skip))
  refine wps_cond (by simp only [go_sem, Nat.reduceLeDiff, Nat.reducePow, Nat.reduceSub, Nat.reduceLT, Nat.reduceEqDiff, Nat.reduceAdd, Nat.reduceMul, ↓reduceIte, reduceCtorEq, tabR]; rfl) (by simp) (fun hb => ?_) (fun hb => ?_)
  · refine wps_seq_k fun K1 hK1 => wps_regT tabR tabR_ok ?_; simp only [go_sem, Nat.reduceLeDiff, Nat.reducePow, Nat.reduceSub, Nat.reduceLT, Nat.reduceEqDiff, Nat.reduceAdd, Nat.reduceMul, ↓reduceIte, reduceCtorEq, tabR]; (first | (refine hK1 _ ?_; clear hK1 K1) | (refine ⟨?_, hK1 _ ?_⟩ <;> clear hK1 K1; first | (· (simp; done)) | (· (simp +contextual; done)) | (· (simp +contextual; omega)) | (· grind) | skip))
    simp only [wps, endQ, resV, resVs, resV1, go_sem, Nat.reduceLeDiff, Nat.reducePow, Nat.reduceSub, Nat.reduceLT, Nat.reduceEqDiff, Nat.reduceAdd, Nat.reduceMul, ↓reduceIte, reduceCtorEq, tabR]
  · simp at hb
theorem s32_nil (id a b : Int) (M : Heap) : Pure Tryz.prog 32 [.nilp, .int .i64 id, .int .i64 a, .int .i64 b] M (.int .i64 1) := by
  refine Spec.strip (fun _ => false) ok32 (by simp) ?_
  unfold c32
  refine wps_seq_k fun K1 hK1 => wps_regT tabR tabR_ok ?_; simp only [go_sem, Nat.reduceLeDiff, Nat.reducePow, Nat.reduceSub, Nat.reduceLT, Nat.reduceEqDiff, Nat.reduceAdd, Nat.reduceMul, ↓reduceIte, reduceCtorEq, tabR]; (first | (refine hK1 _ ?_; clear hK1 K1) | (refine ⟨?_, hK1 _ ?_⟩ <;> clear hK1 K1; first | (· (simp; done)) | (· (simp +contextual; done)) | (· (simp +contextual; omega)) | (· grind) | skip))
  refine wps_seq_k fun K2 hK2 => ?_
  refine wps_seq_k fun K1 hK1 => wps_regT tabR tabR_ok ?_; simp only [go_sem, Nat.reduceLeDiff, Nat.reducePow, Nat.reduceSub, Nat.reduceLT, Nat.reduceEqDiff, Nat.reduceAdd, Nat.reduceMul, ↓reduceIte, reduceCtorEq, tabR, eq25a]; (first | (refine hK1 _ ?_; clear hK1 K1) | (refine ⟨?_, hK1 _ ?_⟩ <;> clear hK1 K1; first | (· (simp; done)) | (· (simp +contextual; done)) | (· (simp +contextual; omega)) | (· grind) | skip))
  refine wps_cond (by simp only [go_sem, Nat.reduceLeDiff, Nat.reducePow, Nat.reduceSub, Nat.reduceLT, Nat.reduceEqDiff, Nat.reduceAdd, Nat.reduceMul, ↓reduceIte, reduceCtorEq, tabR]; rfl) (by simp) (fun hb => ?_) (fun hb => ?_)
  · refine wps_seq_k fun K1 hK1 => wps_regT tabR tabR_ok ?_; simp only [go_sem, Nat.reduceLeDiff, Nat.reducePow, Nat.reduceSub, Nat.reduceLT, Nat.reduceEqDiff, Nat.reduceAdd, Nat.reduceMul, ↓reduceIte, reduceCtorEq, tabR]; (first | (refine hK1 _ ?_; clear hK1 K1) | (refine ⟨?_, hK1 _ ?_⟩ <;> clear hK1 K1; first | (· (simp; done)) | (· (simp +contextual; done)) | (· (simp +contextual; omega)) | (· grind) | skip))
    simp only [wps, endQ, resV, resVs, resV1, go_sem, Nat.reduceLeDiff, Nat.reducePow, Nat.reduceSub, Nat.reduceLT, Nat.reduceEqDiff, Nat.reduceAdd, Nat.reduceMul, ↓reduceIte, reduceCtorEq, tabR]
  · simp at hb
theorem s34_nil (id : Int) (M : Heap) : Pure Tryz.prog 34 [.nilp, .int .i64 id] M (.agg [.nils]) := by
  refine Spec.strip (fun _ => false) ok34 (by simp) ?_
  unfold c34
  refine wps_seq_k fun K1 hK1 => wps_regT tabR tabR_ok ?_; simp only [go_sem, Nat.reduceLeDiff, Nat.reducePow, Nat.reduceSub, Nat.reduceLT, Nat.reduceEqDiff, Nat.reduceAdd, Nat.reduceMul, ↓reduceIte, reduceCtorEq, tabR, zero95]; (first | (refine hK1 _ ?_; clear hK1 K1) | (refine ⟨?_, hK1 _ ?_⟩ <;> clear hK1 K1; first | (· (simp; done)) | (· (simp +contextual; done)) | (· (simp +contextual; omega)) | (· grind) | skip))
  refine wps_seq_k fun K2 hK2 => ?_
  refine wps_seq_k fun K1 hK1 => wps_regT tabR tabR_ok ?_; simp only [go_sem, Nat.reduceLeDiff, Nat.reducePow, Nat.reduceSub, Nat.reduceLT, Nat.reduceEqDiff, Nat.reduceAdd, Nat.reduceMul, ↓reduceIte, reduceCtorEq, tabR, eq25a]; (first | (refine hK1 _ ?_; clear hK1 K1) | (refine ⟨?_, hK1 _ ?_⟩ <;> clear hK1 K1; first | (· (simp; done)) | (· (simp +contextual; done)) | (· (simp +contextual; omega)) | (· grind) | skip))
  refine wps_cond (by simp only [go_sem, Nat.reduceLeDiff, Nat.reducePow, Nat.reduceSub, Nat.reduceLT, Nat.reduceEqDiff, Nat.reduceAdd, Nat.reduceMul, ↓reduceIte, reduceCtorEq, tabR]; rfl) (by simp) (fun hb => ?_) (fun hb => ?_)
  · refine wps_seq_k fun K1 hK1 => wps_regT tabR tabR_ok ?_; simp only [go_sem, Nat.reduceLeDiff, Nat.reducePow, Nat.reduceSub, Nat.reduceLT, Nat.reduceEqDiff, Nat.reduceAdd, Nat.reduceMul, ↓reduceIte, reduceCtorEq, tabR, bs95, ti95, zero95]; (first | (refine hK1 _ ?_; clear hK1 K1) | (refine ⟨?_, hK1 _ ?_⟩ <;> clear hK1 K1; first | (· (simp; done)) | (· (simp +contextual; done)) | (· (simp +contextual; omega)) | (· grind) | skip))
    simp only [wps, endQ, resV, resVs, resV1, go_sem, Nat.reduceLeDiff, Nat.reducePow, Nat.reduceSub, Nat.reduceLT, Nat.reduceEqDiff, Nat.reduceAdd, Nat.reduceMul, ↓reduceIte, reduceCtorEq, tabR, ti95]
  · simp at hb
theorem s35_none (M : Heap) : Pure Tryz.prog 35 [.agg [.lst []]] M (.int .i64 0) := by
  refine Spec.strip (fun _ => false) ok35 (by simp) ?_
  unfold c35
  refine wps_seq_k fun K1 hK1 => wps_regT tabR tabR_ok ?_; simp only [go_sem, Nat.reduceLeDiff, Nat.reducePow, Nat.reduceSub, Nat.reduceLT, Nat.reduceEqDiff, Nat.reduceAdd, Nat.reduceMul, ↓reduceIte, reduceCtorEq, tabR]; (first | (refine hK1 _ ?_; clear hK1 K1) | (refine ⟨?_, hK1 _ ?_⟩ <;> clear hK1 K1; first | (· (simp; done)) | (· (simp +contextual; done)) | (· (simp +contextual; omega)) | (· grind) | skip))
  refine wps_seq_k fun K1 hK1 => wps_regT tabR tabR_ok ?_; simp only [go_sem, Nat.reduceLeDiff, Nat.reducePow, Nat.reduceSub, Nat.reduceLT, Nat.reduceEqDiff, Nat.reduceAdd, Nat.reduceMul, ↓reduceIte, reduceCtorEq, tabR]; (first | (refine hK1 _ ?_; clear hK1 K1) | (refine ⟨?_, hK1 _ ?_⟩ <;> clear hK1 K1; first | (· (simp; done)) | (· (simp +contextual; done)) | (· (simp +contextual; omega)) | (· grind) | skip))
  refine wps_seq_k fun K2 hK2 => ?_
  refine wps_seq_k fun K1 hK1 => wps_regT tabR tabR_ok ?_; simp only [go_sem, Nat.reduceLeDiff, Nat.reducePow, Nat.reduceSub, Nat.reduceLT, Nat.reduceEqDiff, Nat.reduceAdd, Nat.reduceMul, ↓reduceIte, reduceCtorEq, tabR, fi95_0, ti52, und52]; (first | (refine hK1 _ ?_; clear hK1 K1) | (refine ⟨?_, hK1 _ ?_⟩ <;> clear hK1 K1; first | (· (simp; done)) | (· (simp +contextual; done)) | (· (simp +contextual; omega)) | (· grind) | skip))
  refine wps_block (wps_rounds 1 ?_)
  rw [loopW_succ]
  refine wps_seq_k fun K1 hK1 => wps_regT tabR tabR_ok ?_; simp only [go_sem, Nat.reduceLeDiff, Nat.reducePow, Nat.reduceSub, Nat.reduceLT, Nat.reduceEqDiff, Nat.reduceAdd, Nat.reduceMul, ↓reduceIte, reduceCtorEq, tabR]; (first | (refine hK1 _ ?_; clear hK1 K1) | (refine ⟨?_, hK1 _ ?_⟩ <;> clear hK1 K1; first | (· (simp; done)) | (· (simp +contextual; done)) | (· (simp +contextual; omega)) | (· grind) | skip))
  refine wps_seq_k fun K3 hK3 => ?_
  refine wps_cond (by simp only [go_sem, Nat.reduceLeDiff, Nat.reducePow, Nat.reduceSub, Nat.reduceLT, Nat.reduceEqDiff, Nat.reduceAdd, Nat.reduceMul, ↓reduceIte, reduceCtorEq, tabR]; rfl) (by simp) (fun hb => ?_) (fun hb => ?_)
  · simp at hb
  · refine hK2 _ ?_; clear hK2
    refine wps_seq_k fun K1 hK1 => wps_regT tabR tabR_ok ?_; simp only [go_sem, Nat.reduceLeDiff, Nat.reducePow, Nat.reduceSub, Nat.reduceLT, Nat.reduceEqDiff, Nat.reduceAdd, Nat.reduceMul, ↓reduceIte, reduceCtorEq, tabR]; (first | (refine hK1 _ ?_; clear hK1 K1) | (refine ⟨?_, hK1 _ ?_⟩ <;> clear hK1 K1; first | (· (simp; done)) | (· (simp +contextual; done)) | (· (simp +contextual; omega)) | (· grind) | skip))
    simp only [wps, endQ, resV, resVs, resV1, go_sem, Nat.reduceLeDiff, Nat.reducePow, Nat.reduceSub, Nat.reduceLT, Nat.reduceEqDiff, Nat.reduceAdd, Nat.reduceMul, ↓reduceIte, reduceCtorEq, tabR]
def tHead : List V → Option (Prop × V)
  | [.str s] => some (True, .bool (objectQ s))
  | _ => none
def tCnt : List V → Option (Prop × V)
  | [.int .i64 n] => some (True, .bool (cnt n))
  | _ => none
def tAsk : List V → Option (Prop × V)
  | [.agg [.int .i64 a, .int .i64 b, .int .i64 c]] => some (True, .bool (cnt a && (cnt b && cnt c)))
  | _ => none
def tabL : Tab := fun _ id vs => match id with
  | 74 => tHead vs
  | 75 => tRight vs
  | 76 => tCnt vs
  | 77 => tAsk vs
  | _ => none
theorem tabL_ok : TabOk Tryz.prog tabL := by
  intro M id vs g r h hg
  unfold tabL at h
  split at h
  · unfold tHead at h
    split at h <;> cases h
    exact s74 _ _
  · unfold tRight at h
    split at h <;> try (cases h; done)
    split at h <;> cases h
    rename_i hm
    rw [deMeta_eq hm]
    exact s75 _ _
  · unfold tCnt at h
    split at h <;> cases h
    exact s76 _ _
  · unfold tAsk at h
    split at h <;> cases h
    exact s77 _ _ _ _
  · cases h

theorem s27_nil (obj : B) (r0 : Int) (m : MetaD) (ra rb age a b c : Int) (M : Heap) : Pure Tryz.prog 27 [.nilp, .str obj, .agg [.int .i64 r0, .str m.t, .bool m.w, .int .i64 m.mod, .int .i64 m.len, .int .i64 m.have_, .int .i64 m.fresh, .int .i64 m.while_, .int .i64 m.err, .lst (sl m.keys), .str m.ten, .bool m.keep, .int .i64 ra, .int .i64 rb, .int .i64 age], .agg [.int .i64 a, .int .i64 b, .int .i64 c]] M (.tup [.int .i64 0, .bool false]) := by
  refine Spec.strip (fun _ => false) ok27 (by simp) ?_
  unfold c27
  refine wps_seq_k fun K1 hK1 => wps_regT tabL tabL_ok ?_; simp only [go_sem, Nat.reduceLeDiff, Nat.reducePow, Nat.reduceSub, Nat.reduceLT, Nat.reduceEqDiff, Nat.reduceAdd, Nat.reduceMul, ↓reduceIte, reduceCtorEq, tabL, tHead, tRight, tCnt, tAsk, deMeta_c]; (first | (refine hK1 _ ?_; clear hK1 K1) | (refine ⟨?_, hK1 _ ?_⟩ <;> clear hK1 K1; first | (· (simp; done)) | (· (simp +contextual; done)) | (· (simp +contextual; omega)) | (· grind) | skip))
  refine wps_seq_k fun K2 hK2 => ?_
  refine wps_seq_k fun K1 hK1 => wps_regT tabL tabL_ok ?_; simp only [go_sem, Nat.reduceLeDiff, Nat.reducePow, Nat.reduceSub, Nat.reduceLT, Nat.reduceEqDiff, Nat.reduceAdd, Nat.reduceMul, ↓reduceIte, reduceCtorEq, tabL, tHead, tRight, tCnt, tAsk, deMeta_c, eq25a, fi43_1, fi43_3, ti39, ti2, ti74]; (first | (refine hK1 _ ?_; clear hK1 K1) | (refine ⟨?_, hK1 _ ?_⟩ <;> clear hK1 K1; first | (· (simp; done)) | (· (simp +contextual; done)) | (· (simp +contextual; omega)) | (· grind) | skip))
  refine wps_cond (by simp only [go_sem, Nat.reduceLeDiff, Nat.reducePow, Nat.reduceSub, Nat.reduceLT, Nat.reduceEqDiff, Nat.reduceAdd, Nat.reduceMul, ↓reduceIte, reduceCtorEq, tabL, tHead, tRight, tCnt, tAsk, deMeta_c]; rfl) (by simp) (fun hb => ?_) (fun hb => ?_)
  · refine wps_seq_k fun K1 hK1 => wps_regT tabL tabL_ok ?_; simp only [go_sem, Nat.reduceLeDiff, Nat.reducePow, Nat.reduceSub, Nat.reduceLT, Nat.reduceEqDiff, Nat.reduceAdd, Nat.reduceMul, ↓reduceIte, reduceCtorEq, tabL, tHead, tRight, tCnt, tAsk, deMeta_c]; (first | (refine hK1 _ ?_; clear hK1 K1) | (refine ⟨?_, hK1 _ ?_⟩ <;> clear hK1 K1; first | (· (simp; done)) | (· (simp +contextual; done)) | (· (simp +contextual; omega)) | (· grind) | skip))
    simp only [wps, endQ, resV, resVs, resV1, go_sem, Nat.reduceLeDiff, Nat.reducePow, Nat.reduceSub, Nat.reduceLT, Nat.reduceEqDiff, Nat.reduceAdd, Nat.reduceMul, ↓reduceIte, reduceCtorEq, tabL, tHead, tRight, tCnt, tAsk, deMeta_c]
  · simp at hb

end Go.Eng.Tryz

/- Contracts of chapter 42: of no table nothing is filled. -/
namespace Go.Eng.Tryz
open Go.Proofs
attribute [local go_sem] oss_nil_eq Int.toNat_natCast maxLen Nat.zero_le run step opv slotV opvs dstLt evalQ constV isA setD upd_app guardB List.getD_cons_zero List.getD_cons_succ List.getD_nil V.tag V.cells decide_true decide_false Bool.false_eq_true if_false if_true ne_eq Nat.one_ne_zero not_false_eq_true keyKind cellOk List.forall_mem_cons List.not_mem_nil false_implies true_and and_true implies_true forall_const bump addrAdd loadA loadV part opV binV eqlV eqOk pickV unV convV boundV fillV storeTo splice List.getElem?_cons_zero List.getElem?_cons_succ List.take_succ_cons List.take_zero List.drop_succ_cons List.drop_zero List.length_cons List.length_nil List.cons_append List.nil_append List.append_nil List.getElem_toArray List.getElem?_toArray List.size_toArray and_self eqV_tupl eqV_tupr fbt tbf beq_self_eq_true Bool.not_false Bool.not_true cond_true cond_false newVarW updH_self updH_updH isFuncFn runT stepT stepC isCallV callOf callV escL memN runW stepW stepCW runD stepD safeB slots ownS stepOwn reads runM stepM emptyH softEq V.soft softs readSl chunks partsV delKV slice0V stepE runE
set_option linter.unusedSimpArgs false
set_option linter.unusedVariables false

theorem s87_nil (id x y : Int) (f : Nat) (M : Heap) : Pure Tryz.prog 87 [.nilp, .int .i64 id, .agg [.int .i64 x, .int .i64 y], .fn (.func f) [] []] M (.int .i64 1) := by
  refine Spec.strip (fun _ => false) ok87 (by simp) ?_
  unfold c87
  refine wps_seq_k fun K1 hK1 => wps_regT tabR tabR_ok ?_; simp only [go_sem, Nat.reduceLeDiff, Nat.reducePow, Nat.reduceSub, Nat.reduceLT, Nat.reduceEqDiff, Nat.reduceAdd, Nat.reduceMul, ↓reduceIte, reduceCtorEq, tabR]; (first | (refine hK1 _ ?_; clear hK1 K1) | (refine ⟨?_, hK1 _ ?_⟩ <;> clear hK1 K1; first | (· (simp; done)) | (· (simp +contextual; done)) | (· (simp +contextual; omega)) | (· grind) | skip))
  refine wps_seq_k fun K2 hK2 => ?_
  refine wps_seq_k fun K1 hK1 => wps_regT tabR tabR_ok ?_; simp only [go_sem, Nat.reduceLeDiff, Nat.reducePow, Nat.reduceSub, Nat.reduceLT, Nat.reduceEqDiff, Nat.reduceAdd, Nat.reduceMul, ↓reduceIte, reduceCtorEq, tabR, eq25a, ti41]; (first | (refine hK1 _ ?_; clear hK1 K1) | (refine ⟨?_, hK1 _ ?_⟩ <;> clear hK1 K1; first | (· (simp; done)) | (· (simp +contextual; done)) | (· (simp +contextual; omega)) | (· grind) | skip))
  refine wps_cond (by simp only [go_sem, Nat.reduceLeDiff, Nat.reducePow, Nat.reduceSub, Nat.reduceLT, Nat.reduceEqDiff, Nat.reduceAdd, Nat.reduceMul, ↓reduceIte, reduceCtorEq, tabR]; rfl) (by simp) (fun hb => ?_) (fun hb => ?_)
  · refine wps_seq_k fun K1 hK1 => wps_regT tabR tabR_ok ?_; simp only [go_sem, Nat.reduceLeDiff, Nat.reducePow, Nat.reduceSub, Nat.reduceLT, Nat.reduceEqDiff, Nat.reduceAdd, Nat.reduceMul, ↓reduceIte, reduceCtorEq, tabR]; (first | (refine hK1 _ ?_; clear hK1 K1) | (refine ⟨?_, hK1 _ ?_⟩ <;> clear hK1 K1; first | (· (simp; done)) | (· (simp +contextual; done)) | (· (simp +contextual; omega)) | (· grind) | skip))
    simp only [wps, endQ, resV, resVs, resV1, go_sem, Nat.reduceLeDiff, Nat.reducePow, Nat.reduceSub, Nat.reduceLT, Nat.reduceEqDiff, Nat.reduceAdd, Nat.reduceMul, ↓reduceIte, reduceCtorEq, tabR]
  · simp at hb

def tChange : List V → Option (Prop × V)
  | [.nilp, .int .i64 _, .agg [.int .i64 _, .int .i64 _], .fn (.func _) [] []] => some (True, .int .i64 1)
  | _ => none
def tabF : Tab := fun _ id vs => match id with
  | 87 => tChange vs
  | _ => none
theorem tabF_ok : TabOk Tryz.prog tabF := by
  intro M id vs g r h hg
  unfold tabF at h
  split at h
  · unfold tChange at h
    split at h <;> cases h
    exact s87_nil _ _ _ _ _
  · cases h

theorem s30_nil (id x y : Int) (M : Heap) : Pure Tryz.prog 30 [.nilp, .int .i64 id, .agg [.int .i64 x, .int .i64 y]] M (.int .i64 1) := by
  refine Spec.strip (fun _ => false) ok30 (by simp) ?_
  unfold c30
  refine wps_seq_k fun K1 hK1 => wps_regT tabF tabF_ok ?_; simp only [go_sem, Nat.reduceLeDiff, Nat.reducePow, Nat.reduceSub, Nat.reduceLT, Nat.reduceEqDiff, Nat.reduceAdd, Nat.reduceMul, ↓reduceIte, reduceCtorEq, tabF, tChange]; (first | (refine hK1 _ ?_; clear hK1 K1) | (refine ⟨?_, hK1 _ ?_⟩ <;> clear hK1 K1; first | (· (simp; done)) | (· (simp +contextual; done)) | (· (simp +contextual; omega)) | (· grind) | skip))
  refine wps_seq_k fun K1 hK1 => wps_regT tabF tabF_ok ?_; simp only [go_sem, Nat.reduceLeDiff, Nat.reducePow, Nat.reduceSub, Nat.reduceLT, Nat.reduceEqDiff, Nat.reduceAdd, Nat.reduceMul, ↓reduceIte, reduceCtorEq, tabF, tChange, ti41]; (first | (refine hK1 _ ?_; clear hK1 K1) | (refine ⟨?_, hK1 _ ?_⟩ <;> clear hK1 K1; first | (· (simp; done)) | (· (simp +contextual; done)) | (· (simp +contextual; omega)) | (· grind) | skip))
  simp only [wps, endQ, resV, resVs, resV1, go_sem, Nat.reduceLeDiff, Nat.reducePow, Nat.reduceSub, Nat.reduceLT, Nat.reduceEqDiff, Nat.reduceAdd, Nat.reduceMul, ↓reduceIte, reduceCtorEq, tabF, tChange]
theorem s31_nil (id x y : Int) (M : Heap) : Pure Tryz.prog 31 [.nilp, .int .i64 id, .agg [.int .i64 x, .int .i64 y]] M (.int .i64 1) := by
  refine Spec.strip (fun _ => false) ok31 (by simp) ?_
  unfold c31
  refine wps_seq_k fun K1 hK1 => wps_regT tabF tabF_ok ?_; simp only [go_sem, Nat.reduceLeDiff, Nat.reducePow, Nat.reduceSub, Nat.reduceLT, Nat.reduceEqDiff, Nat.reduceAdd, Nat.reduceMul, ↓reduceIte, reduceCtorEq, tabF, tChange]; (first | (refine hK1 _ ?_; clear hK1 K1) | (refine ⟨?_, hK1 _ ?_⟩ <;> clear hK1 K1; first | (· (simp; done)) | (· (simp +contextual; done)) | (· (simp +contextual; omega)) | (· grind) | skip))
  refine wps_seq_k fun K1 hK1 => wps_regT tabF tabF_ok ?_; simp only [go_sem, Nat.reduceLeDiff, Nat.reducePow, Nat.reduceSub, Nat.reduceLT, Nat.reduceEqDiff, Nat.reduceAdd, Nat.reduceMul, ↓reduceIte, reduceCtorEq, tabF, tChange, ti41]; (first | (refine hK1 _ ?_; clear hK1 K1) | (refine ⟨?_, hK1 _ ?_⟩ <;> clear hK1 K1; first | (· (simp; done)) | (· (simp +contextual; done)) | (· (simp +contextual; omega)) | (· grind) | skip))
  simp only [wps, endQ, resV, resVs, resV1, go_sem, Nat.reduceLeDiff, Nat.reducePow, Nat.reduceSub, Nat.reduceLT, Nat.reduceEqDiff, Nat.reduceAdd, Nat.reduceMul, ↓reduceIte, reduceCtorEq, tabF, tChange]

end Go.Eng.Tryz
