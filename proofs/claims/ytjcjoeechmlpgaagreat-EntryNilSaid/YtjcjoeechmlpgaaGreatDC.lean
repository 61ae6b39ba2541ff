/- Contracts of chapter 42: what statements take; no purges. -/
import Derived.Test.YtjcjoeechmlpgaaGreatDB
import Derived.Test.YtjcjoeechmlpgaaGreatEC
namespace Go.Eng.Tryz
open Go.Proofs
attribute [local go_sem] oss_nil_eq Int.toNat_natCast maxLen Nat.zero_le run step opv slotV opvs dstLt evalQ constV isA setD upd_app guardB List.getD_cons_zero List.getD_cons_succ List.getD_nil V.tag V.cells decide_true decide_false Bool.false_eq_true if_false if_true ne_eq Nat.one_ne_zero not_false_eq_true keyKind cellOk List.forall_mem_cons List.not_mem_nil false_implies true_and and_true implies_true forall_const bump addrAdd loadA loadV part opV binV eqlV eqOk pickV unV convV boundV fillV storeTo splice List.getElem?_cons_zero List.getElem?_cons_succ List.take_succ_cons List.take_zero List.drop_succ_cons List.drop_zero List.length_cons List.length_nil List.cons_append List.nil_append List.append_nil List.getElem_toArray List.getElem?_toArray List.size_toArray and_self eqV_tupl eqV_tupr fbt tbf beq_self_eq_true Bool.not_false Bool.not_true cond_true cond_false newVarW updH_self updH_updH isFuncFn runT stepT stepC isCallV callOf callV escL memN runW stepW stepCW runD stepD safeB slots ownS stepOwn reads runM stepM emptyH softEq V.soft softs readSl chunks partsV delKV slice0V stepE runE
set_option linter.unusedSimpArgs false
set_option linter.unusedVariables false

def smallM (m : MetaD) : Bool := decide (m.t.length ≤ 200) && (decide (m.keys.length ≤ 40) && (decide (m.ten.length ≤ 100) && m.keys.all fun k => decide (k.length ≤ 300)))

theorem allK_take {p : B → Bool} {ks : List B} {k : Nat} (h : (ks.take k).all p = true) (hk : k < ks.length) (hp : p (ks.getD k []) = true) : (ks.take (k + 1)).all p = true := by
  rw [List.take_succ_eq_append_getElem hk, List.all_append, h]
  simpa [List.getD_eq_getElem?_getD, List.getElem?_eq_getElem hk] using hp
theorem allK_not {p : B → Bool} {ks : List B} {k : Nat} (hk : k < ks.length) (hp : p (ks.getD k []) = false) : ks.all p = false := by
  rw [List.all_eq_false]
  refine ⟨ks.getD k [], ?_, by rw [hp]; simp⟩
  simp [List.getD_eq_getElem?_getD, List.getElem?_eq_getElem hk]

theorem s37 (r0 : Int) (m : MetaD) (ra rb age : Int) (M : Heap) : Pure Tryz.prog 37 [replyV r0 m ra rb age] M (.bool (smallM m)) := by
  refine Spec.strip' (fun _ => false) ok37 (by simp) (fun hlen => ?_)
  have hkl : m.keys.length ≤ 9223372036854775807 := by
    simp only [lensOk, lenOk] at hlen
    have := hlen.1.2.2.2.2.2.2.2.2.2.1.1
    simpa [sl_len, maxLen] using this
  have hks : ∀ k, (m.keys.getD k []).length ≤ 9223372036854775807 := by
    intro k
    simp only [lensOk, lenOk] at hlen
    have := (hlen.1.2.2.2.2.2.2.2.2.2.1.2).at k
    by_cases hk : k < m.keys.length
    · rw [sl_get hk] at this
      simpa [lensOk, lenOk, maxLen] using this
    · simp [List.getD_eq_getElem?_getD, List.getElem?_eq_none (Nat.le_of_not_lt hk)]
  obtain ⟨mt, mw, mm, ml, mh, mf, mwh, mer, mk, mten, mkeep⟩ := m
  simp only at hkl hks
  unfold c37
  refine wps_seq_k fun K1 hK1 => wps_reg ?_; simp only [go_sem, Nat.reduceLeDiff, Nat.reducePow, Nat.reduceSub, Nat.reduceLT, Nat.reduceEqDiff, Nat.reduceAdd, Nat.reduceMul, ↓reduceIte, reduceCtorEq]; (first | (refine hK1 _ ?_; clear hK1 K1) | (refine ⟨?_, hK1 _ ?_⟩ <;> clear hK1 K1; first | (· (simp; done)) | (· (simp +contextual; done)) | (· (simp +contextual; omega)) | (· grind) | skip))
  refine wps_seq_k fun K2 hK2 => ?_
  refine wps_seq_k fun K1 hK1 => wps_reg ?_; simp only [go_sem, Nat.reduceLeDiff, Nat.reducePow, Nat.reduceSub, Nat.reduceLT, Nat.reduceEqDiff, Nat.reduceAdd, Nat.reduceMul, ↓reduceIte, reduceCtorEq, fi36_0, fi39_0, fi39_7, fi39_8, fi43_1, ti37, ti9, und37, und9]; (first | (refine hK1 _ ?_; clear hK1 K1) | (refine ⟨?_, hK1 _ ?_⟩ <;> clear hK1 K1; first | (· (simp; done)) | (· (simp +contextual; done)) | (· (simp +contextual; omega)) | (· grind) | skip))
  refine wps_cond (by simp only [go_sem, Nat.reduceLeDiff, Nat.reducePow, Nat.reduceSub, Nat.reduceLT, Nat.reduceEqDiff, Nat.reduceAdd, Nat.reduceMul, ↓reduceIte, reduceCtorEq]; rfl) (by simp) (fun hb => ?_) (fun hb => ?_)
  · refine wps_seq_k fun K1 hK1 => wps_reg ?_; simp only [go_sem, Nat.reduceLeDiff, Nat.reducePow, Nat.reduceSub, Nat.reduceLT, Nat.reduceEqDiff, Nat.reduceAdd, Nat.reduceMul, ↓reduceIte, reduceCtorEq]; (first | (refine hK1 _ ?_; clear hK1 K1) | (refine ⟨?_, hK1 _ ?_⟩ <;> clear hK1 K1; first | (· (simp; done)) | (· (simp +contextual; done)) | (· (simp +contextual; omega)) | (· grind) | skip))
    simp only [wps, endQ, resV, resVs, resV1, go_sem, Nat.reduceLeDiff, Nat.reducePow, Nat.reduceSub, Nat.reduceLT, Nat.reduceEqDiff, Nat.reduceAdd, Nat.reduceMul, ↓reduceIte, reduceCtorEq]
    simp only [smallM]
    simp [sl_len] at hb ⊢
    intro h1 h2 h3
    omega
  · refine hK2 _ ?_; clear hK2 K2
    have hb1 := hb; clear hb
    refine wps_seq_k fun K3 hK3 => ?_
    refine wps_seq_k fun K1 hK1 => wps_reg ?_; simp only [go_sem, Nat.reduceLeDiff, Nat.reducePow, Nat.reduceSub, Nat.reduceLT, Nat.reduceEqDiff, Nat.reduceAdd, Nat.reduceMul, ↓reduceIte, reduceCtorEq, fi39_7, fi43_1, ti37, und37, sl_len]; (first | (refine hK1 _ ?_; clear hK1 K1) | (refine ⟨?_, hK1 _ ?_⟩ <;> clear hK1 K1; first | (· (simp; done)) | (· (simp +contextual; done)) | (· (simp +contextual; omega)) | (· grind) | skip))
    refine wps_block (wps_count 29 mk.length (fun k st => (mk.take k).all (fun k => decide (k.length ≤ 300)) = true ∧ st.M = M ∧ st.fr 27 = .lst (sl mk) ∧ st.fr 28 = .int .i64 mk.length) ?_ ?_)
    · exact ⟨0, by simp, by simp only [go_sem, Nat.reduceLeDiff, Nat.reducePow, Nat.reduceSub, Nat.reduceLT, Nat.reduceEqDiff, Nat.reduceAdd, Nat.reduceMul, ↓reduceIte, reduceCtorEq]; rfl, by simp, by simp only [go_sem, Nat.reduceLeDiff, Nat.reducePow, Nat.reduceSub, Nat.reduceLT, Nat.reduceEqDiff, Nat.reduceAdd, Nat.reduceMul, ↓reduceIte, reduceCtorEq], by simp only [go_sem, Nat.reduceLeDiff, Nat.reducePow, Nat.reduceSub, Nat.reduceLT, Nat.reduceEqDiff, Nat.reduceAdd, Nat.reduceMul, ↓reduceIte, reduceCtorEq], by simp only [go_sem, Nat.reduceLeDiff, Nat.reducePow, Nat.reduceSub, Nat.reduceLT, Nat.reduceEqDiff, Nat.reduceAdd, Nat.reduceMul, ↓reduceIte, reduceCtorEq]⟩
    · rintro k fr M' gen hk hi ⟨hall, hM, h22, h23⟩
      simp only at hM h22 h23 hi; subst hM
      refine wps_seq_k fun K1 hK1 => wps_reg ?_; simp only [go_sem, Nat.reduceLeDiff, Nat.reducePow, Nat.reduceSub, Nat.reduceLT, Nat.reduceEqDiff, Nat.reduceAdd, Nat.reduceMul, ↓reduceIte, reduceCtorEq, hi, h23]; (first | (refine hK1 _ ?_; clear hK1 K1) | (refine ⟨?_, hK1 _ ?_⟩ <;> clear hK1 K1; first | (· (simp; done)) | (· (simp +contextual; done)) | (· (simp +contextual; omega)) | (· grind) | skip))
      refine wps_seq_k fun K4 hK4 => ?_
      refine wps_cond (by simp only [go_sem, Nat.reduceLeDiff, Nat.reducePow, Nat.reduceSub, Nat.reduceLT, Nat.reduceEqDiff, Nat.reduceAdd, Nat.reduceMul, ↓reduceIte, reduceCtorEq]; rfl) (by simp) (fun hb => ?_) (fun hb => ?_)
      · refine hK4 _ ?_; clear hK4 K4
        simp only [decide_eq_true_eq] at hb
        have hk' : k < mk.length := by omega
        have hg := sl_get hk'
        refine wps_seq_k fun K5 hK5 => ?_
        refine wps_block ?_
        refine wps_seq_k fun K1 hK1 => wps_reg ?_; simp only [go_sem, Nat.reduceLeDiff, Nat.reducePow, Nat.reduceSub, Nat.reduceLT, Nat.reduceEqDiff, Nat.reduceAdd, Nat.reduceMul, ↓reduceIte, reduceCtorEq, ti9, und37, h22, hi, hg, sl_len]; (first | (refine hK1 _ ?_; clear hK1 K1) | (refine ⟨?_, hK1 _ ?_⟩ <;> clear hK1 K1; first | (· (simp; done)) | (· (simp +contextual; done)) | (· (simp +contextual; omega)) | (· grind) | skip))
        refine wps_seq_k fun K1 hK1 => wps_reg ?_; simp only [go_sem, Nat.reduceLeDiff, Nat.reducePow, Nat.reduceSub, Nat.reduceLT, Nat.reduceEqDiff, Nat.reduceAdd, Nat.reduceMul, ↓reduceIte, reduceCtorEq, und9]; (first | (refine hK1 _ ?_; clear hK1 K1) | (refine ⟨?_, hK1 _ ?_⟩ <;> clear hK1 K1; first | (· (simp; done)) | (· (simp +contextual; done)) | (· (simp +contextual; omega)) | (· grind) | skip))
        refine wps_cond (by simp only [go_sem, Nat.reduceLeDiff, Nat.reducePow, Nat.reduceSub, Nat.reduceLT, Nat.reduceEqDiff, Nat.reduceAdd, Nat.reduceMul, ↓reduceIte, reduceCtorEq]; rfl) (by simp) (fun hb => ?_) (fun hb => ?_)
        · refine wps_seq_k fun K1 hK1 => wps_reg ?_; simp only [go_sem, Nat.reduceLeDiff, Nat.reducePow, Nat.reduceSub, Nat.reduceLT, Nat.reduceEqDiff, Nat.reduceAdd, Nat.reduceMul, ↓reduceIte, reduceCtorEq]; (first | (refine hK1 _ ?_; clear hK1 K1) | (refine ⟨?_, hK1 _ ?_⟩ <;> clear hK1 K1; first | (· (simp; done)) | (· (simp +contextual; done)) | (· (simp +contextual; omega)) | (· grind) | skip))
          simp only [wps, endQ, resV, resVs, resV1, go_sem, Nat.reduceLeDiff, Nat.reducePow, Nat.reduceSub, Nat.reduceLT, Nat.reduceEqDiff, Nat.reduceAdd, Nat.reduceMul, ↓reduceIte, reduceCtorEq]
          simp only [smallM]
          have : mk.all (fun k => decide (k.length ≤ 300)) = false := allK_not hk' (by simp at hb ⊢; omega)
          simp [this]
        · refine hK5 _ ?_; clear hK5 K5
          refine wps_reg ?_; simp only [go_sem, Nat.reduceLeDiff, Nat.reducePow, Nat.reduceSub, Nat.reduceLT, Nat.reduceEqDiff, Nat.reduceAdd, Nat.reduceMul, ↓reduceIte, reduceCtorEq, hi]
          refine ⟨hk', by rw [IntWalk.i64_in _ (by omega)], ?_, h22, h23⟩
          exact allK_take hall hk' (by simp at hb ⊢; omega)
      · refine hK3 _ ?_
        refine wps_seq_k fun K1 hK1 => wps_reg ?_; simp only [go_sem, Nat.reduceLeDiff, Nat.reducePow, Nat.reduceSub, Nat.reduceLT, Nat.reduceEqDiff, Nat.reduceAdd, Nat.reduceMul, ↓reduceIte, reduceCtorEq]; (first | (refine hK1 _ ?_; clear hK1 K1) | (refine ⟨?_, hK1 _ ?_⟩ <;> clear hK1 K1; first | (· (simp; done)) | (· (simp +contextual; done)) | (· (simp +contextual; omega)) | (· grind) | skip))
        simp only [wps, endQ, resV, resVs, resV1, go_sem, Nat.reduceLeDiff, Nat.reducePow, Nat.reduceSub, Nat.reduceLT, Nat.reduceEqDiff, Nat.reduceAdd, Nat.reduceMul, ↓reduceIte, reduceCtorEq]
        have hkS : k = mk.length := by simp at hb; omega
        subst hkS
        rw [List.take_length] at hall
        simp only [smallM, hall]
        simp [sl_len] at hb1 ⊢
        omega
end Go.Eng.Tryz

/- Contracts of chapter 42: what statements take; no purges. -/
namespace Go.Eng.Tryz
open Go.Proofs
attribute [local go_sem] oss_nil_eq Int.toNat_natCast maxLen Nat.zero_le run step opv slotV opvs dstLt evalQ constV isA setD upd_app guardB List.getD_cons_zero List.getD_cons_succ List.getD_nil V.tag V.cells decide_true decide_false Bool.false_eq_true if_false if_true ne_eq Nat.one_ne_zero not_false_eq_true keyKind cellOk List.forall_mem_cons List.not_mem_nil false_implies true_and and_true implies_true forall_const bump addrAdd loadA loadV part opV binV eqlV eqOk pickV unV convV boundV fillV storeTo splice List.getElem?_cons_zero List.getElem?_cons_succ List.take_succ_cons List.take_zero List.drop_succ_cons List.drop_zero List.length_cons List.length_nil List.cons_append List.nil_append List.append_nil List.getElem_toArray List.getElem?_toArray List.size_toArray and_self eqV_tupl eqV_tupr fbt tbf beq_self_eq_true Bool.not_false Bool.not_true cond_true cond_false newVarW updH_self updH_updH isFuncFn runT stepT stepC isCallV callOf callV escL memN runW stepW stepCW runD stepD safeB slots ownS stepOwn reads runM stepM emptyH softEq V.soft softs readSl chunks partsV delKV slice0V stepE runE
set_option linter.unusedSimpArgs false
set_option linter.unusedVariables false

structure ActD where
  (kind : Int) (obj : B) (r0 : Int) (m : MetaD) (ra rb age a b c id x y have_ len : Int)
def actL (a : ActD) : List V := [.int .u8 a.kind, .str a.obj, .int .i64 a.r0, .str a.m.t, .bool a.m.w, .int .i64 a.m.mod, .int .i64 a.m.len, .int .i64 a.m.have_, .int .i64 a.m.fresh, .int .i64 a.m.while_, .int .i64 a.m.err, .lst (sl a.m.keys), .str a.m.ten, .bool a.m.keep, .int .i64 a.ra, .int .i64 a.rb, .int .i64 a.age, .int .i64 a.a, .int .i64 a.b, .int .i64 a.c, .int .i64 a.id, .int .i64 a.x, .int .i64 a.y, .int .i64 a.have_, .int .i64 a.len]
def smallA (a : ActD) : Bool := decide (a.obj.length ≤ 300) && smallM a.m
def smallAs (l : List ActD) : Bool := decide (l.length ≤ 30) && l.all smallA
def acts (l : List ActD) : List (List V) := l.map actL
theorem acts_len (l : List ActD) : (acts l).length = l.length := by simp [acts]
theorem acts_get {l : List ActD} {k : Nat} {a : ActD} (h : l[k]? = some a) : (acts l).getD k [] = actL a := by
  simp [acts, List.getD_eq_getElem?_getD, List.getElem?_map, h]

theorem allT_take {α : Type} {p : α → Bool} {l : List α} {k : Nat} {a : α} (h : (l.take k).all p = true) (hk : l[k]? = some a) (hp : p a = true) : (l.take (k + 1)).all p = true := by
  rw [List.take_add_one, hk]
  simp [h, hp]
theorem allT_not {α : Type} {p : α → Bool} {l : List α} {k : Nat} {a : α} (hk : l[k]? = some a) (hp : p a = false) : l.all p = false := by
  rw [List.all_eq_false]
  exact ⟨a, List.mem_of_getElem? hk, by rw [hp]; simp⟩

def tSmall38 : List V → Option (Prop × V)
  | [.agg [.int .i64 r0, .str t, .bool w, .int .i64 mod, .int .i64 len, .int .i64 have_, .int .i64 fresh, .int .i64 while_, .int .i64 err, .lst es, .str ten, .bool keep, .int .i64 ra, .int .i64 rb, .int .i64 age]] => match unsl es with
    | some ks => some (True, .bool (smallM ⟨t, w, mod, len, have_, fresh, while_, err, ks, ten, keep⟩))
    | none => none
  | _ => none
def tabSm : Tab := fun _ id vs => match id with
  | 37 => tSmall38 vs
  | _ => none
theorem tabSm_ok : TabOk Tryz.prog tabSm := by
  intro M id vs g r h hg
  unfold tabSm at h
  split at h
  · unfold tSmall38 at h
    split at h <;> try (cases h; done)
    split at h <;> cases h
    rename_i hu
    rw [unsl_eq hu]
    exact s37 _ ⟨_, _, _, _, _, _, _, _, _, _, _⟩ _ _ _ _
  · cases h

theorem s10 (l : List ActD) (M : Heap) : Pure Tryz.prog 10 [.lst (acts l)] M (.bool (smallAs l)) := by
  refine Spec.strip' (fun _ => false) ok10 (by simp) (fun hlen => ?_)
  have hll : l.length ≤ 9223372036854775807 := by
    simp only [lensOk, lenOk] at hlen
    simpa [acts_len, maxLen] using hlen.1.1
  unfold c10
  refine wps_seq_k fun K1 hK1 => wps_regT tabSm tabSm_ok ?_; simp only [go_sem, Nat.reduceLeDiff, Nat.reducePow, Nat.reduceSub, Nat.reduceLT, Nat.reduceEqDiff, Nat.reduceAdd, Nat.reduceMul, ↓reduceIte, reduceCtorEq, tabSm, tSmall38, unsl_sl]; (first | (refine hK1 _ ?_; clear hK1 K1) | (refine ⟨?_, hK1 _ ?_⟩ <;> clear hK1 K1; first | (· (simp; done)) | (· (simp +contextual; done)) | (· (simp +contextual; omega)) | (· grind) | skip))
  refine wps_seq_k fun K2 hK2 => ?_
  refine wps_seq_k fun K1 hK1 => wps_regT tabSm tabSm_ok ?_; simp only [go_sem, Nat.reduceLeDiff, Nat.reducePow, Nat.reduceSub, Nat.reduceLT, Nat.reduceEqDiff, Nat.reduceAdd, Nat.reduceMul, ↓reduceIte, reduceCtorEq, tabSm, tSmall38, unsl_sl, und22, acts_len]; (first | (refine hK1 _ ?_; clear hK1 K1) | (refine ⟨?_, hK1 _ ?_⟩ <;> clear hK1 K1; first | (· (simp; done)) | (· (simp +contextual; done)) | (· (simp +contextual; omega)) | (· grind) | skip))
  refine wps_block (wps_count 7 l.length (fun k st => (l.take k).all smallA = true ∧ st.M = M ∧ st.fr 0 = .lst (acts l) ∧ st.fr 5 = .lst (acts l) ∧ st.fr 6 = .int .i64 l.length) ?_ ?_)
  · exact ⟨0, by simp, by simp only [go_sem, Nat.reduceLeDiff, Nat.reducePow, Nat.reduceSub, Nat.reduceLT, Nat.reduceEqDiff, Nat.reduceAdd, Nat.reduceMul, ↓reduceIte, reduceCtorEq, tabSm, tSmall38, unsl_sl]; rfl, by simp, by simp only [go_sem, Nat.reduceLeDiff, Nat.reducePow, Nat.reduceSub, Nat.reduceLT, Nat.reduceEqDiff, Nat.reduceAdd, Nat.reduceMul, ↓reduceIte, reduceCtorEq, tabSm, tSmall38, unsl_sl], by simp only [go_sem, Nat.reduceLeDiff, Nat.reducePow, Nat.reduceSub, Nat.reduceLT, Nat.reduceEqDiff, Nat.reduceAdd, Nat.reduceMul, ↓reduceIte, reduceCtorEq, tabSm, tSmall38, unsl_sl], by simp only [go_sem, Nat.reduceLeDiff, Nat.reducePow, Nat.reduceSub, Nat.reduceLT, Nat.reduceEqDiff, Nat.reduceAdd, Nat.reduceMul, ↓reduceIte, reduceCtorEq, tabSm, tSmall38, unsl_sl], by simp only [go_sem, Nat.reduceLeDiff, Nat.reducePow, Nat.reduceSub, Nat.reduceLT, Nat.reduceEqDiff, Nat.reduceAdd, Nat.reduceMul, ↓reduceIte, reduceCtorEq, tabSm, tSmall38, unsl_sl]⟩
  · rintro k fr M' gen hk hi ⟨hall, hM, h0, h5, h6⟩
    simp only at hM h0 h5 h6 hi; subst hM
    refine wps_seq_k fun K1 hK1 => wps_regT tabSm tabSm_ok ?_; simp only [go_sem, Nat.reduceLeDiff, Nat.reducePow, Nat.reduceSub, Nat.reduceLT, Nat.reduceEqDiff, Nat.reduceAdd, Nat.reduceMul, ↓reduceIte, reduceCtorEq, tabSm, tSmall38, unsl_sl, hi, h6]; (first | (refine hK1 _ ?_; clear hK1 K1) | (refine ⟨?_, hK1 _ ?_⟩ <;> clear hK1 K1; first | (· (simp; done)) | (· (simp +contextual; done)) | (· (simp +contextual; omega)) | (· grind) | skip))
    refine wps_seq_k fun K3 hK3 => ?_
    refine wps_cond (by simp only [go_sem, Nat.reduceLeDiff, Nat.reducePow, Nat.reduceSub, Nat.reduceLT, Nat.reduceEqDiff, Nat.reduceAdd, Nat.reduceMul, ↓reduceIte, reduceCtorEq, tabSm, tSmall38, unsl_sl]; rfl) (by simp) (fun hb => ?_) (fun hb => ?_)
    · refine hK3 _ ?_; clear hK3 K3
      simp only [decide_eq_true_eq] at hb
      have hk' : k < l.length := by omega
      obtain ⟨a, ha⟩ : ∃ a, l[k]? = some a := ⟨l[k], List.getElem?_eq_getElem hk'⟩
      have hg := acts_get ha
      simp only [actL] at hg
      refine wps_seq_k fun K4 hK4 => ?_
      refine wps_block ?_
      refine wps_seq_k fun K1 hK1 => wps_regT tabSm tabSm_ok ?_; simp only [go_sem, Nat.reduceLeDiff, Nat.reducePow, Nat.reduceSub, Nat.reduceLT, Nat.reduceEqDiff, Nat.reduceAdd, Nat.reduceMul, ↓reduceIte, reduceCtorEq, tabSm, tSmall38, unsl_sl, ti47, und22, zero47, h5, hi, hg, acts_len]; (first | (refine hK1 _ ?_; clear hK1 K1) | (refine ⟨?_, hK1 _ ?_⟩ <;> clear hK1 K1; first | (· (simp; done)) | (· (simp +contextual; done)) | (· (simp +contextual; omega)) | (· grind) | skip))
      refine wps_seq_k fun K1 hK1 => wps_regT tabSm tabSm_ok ?_; simp only [go_sem, Nat.reduceLeDiff, Nat.reducePow, Nat.reduceSub, Nat.reduceLT, Nat.reduceEqDiff, Nat.reduceAdd, Nat.reduceMul, ↓reduceIte, reduceCtorEq, tabSm, tSmall38, unsl_sl, fi47_1, fi47_2, ti43, ti9, und9]; (first | (refine hK1 _ ?_; clear hK1 K1) | (refine ⟨?_, hK1 _ ?_⟩ <;> clear hK1 K1; first | (· (simp; done)) | (· (simp +contextual; done)) | (· (simp +contextual; omega)) | (· grind) | skip))
      refine wps_cond (by simp only [go_sem, Nat.reduceLeDiff, Nat.reducePow, Nat.reduceSub, Nat.reduceLT, Nat.reduceEqDiff, Nat.reduceAdd, Nat.reduceMul, ↓reduceIte, reduceCtorEq, tabSm, tSmall38, unsl_sl]; rfl) (by simp) (fun hb => ?_) (fun hb => ?_)
      · refine wps_seq_k fun K1 hK1 => wps_regT tabSm tabSm_ok ?_; simp only [go_sem, Nat.reduceLeDiff, Nat.reducePow, Nat.reduceSub, Nat.reduceLT, Nat.reduceEqDiff, Nat.reduceAdd, Nat.reduceMul, ↓reduceIte, reduceCtorEq, tabSm, tSmall38, unsl_sl]; (first | (refine hK1 _ ?_; clear hK1 K1) | (refine ⟨?_, hK1 _ ?_⟩ <;> clear hK1 K1; first | (· (simp; done)) | (· (simp +contextual; done)) | (· (simp +contextual; omega)) | (· grind) | skip))
        simp only [wps, endQ, resV, resVs, resV1, go_sem, Nat.reduceLeDiff, Nat.reducePow, Nat.reduceSub, Nat.reduceLT, Nat.reduceEqDiff, Nat.reduceAdd, Nat.reduceMul, ↓reduceIte, reduceCtorEq, tabSm, tSmall38, unsl_sl]
        have : l.all smallA = false := allT_not ha (by
          simp only [smallA]
          simp at hb ⊢
          intro h1
          rcases hb with hb | hb
          · omega
          · exact hb)
        simp [smallAs, this]
      · refine hK4 _ ?_; clear hK4 K4
        refine wps_regT tabSm tabSm_ok ?_; simp only [go_sem, Nat.reduceLeDiff, Nat.reducePow, Nat.reduceSub, Nat.reduceLT, Nat.reduceEqDiff, Nat.reduceAdd, Nat.reduceMul, ↓reduceIte, reduceCtorEq, tabSm, tSmall38, unsl_sl, hi]
        refine ⟨hk', by rw [IntWalk.i64_in _ (by omega)], allT_take hall ha ?_, h0, h5, h6⟩
        simp only [smallA]
        simp at hb ⊢
        exact ⟨by omega, hb.2⟩
    · refine hK2 _ ?_
      refine wps_seq_k fun K1 hK1 => wps_regT tabSm tabSm_ok ?_; simp only [go_sem, Nat.reduceLeDiff, Nat.reducePow, Nat.reduceSub, Nat.reduceLT, Nat.reduceEqDiff, Nat.reduceAdd, Nat.reduceMul, ↓reduceIte, reduceCtorEq, tabSm, tSmall38, unsl_sl, und22, h0, acts_len]; (first | (refine hK1 _ ?_; clear hK1 K1) | (refine ⟨?_, hK1 _ ?_⟩ <;> clear hK1 K1; first | (· (simp; done)) | (· (simp +contextual; done)) | (· (simp +contextual; omega)) | (· grind) | skip))
      simp only [wps, endQ, resV, resVs, resV1, go_sem, Nat.reduceLeDiff, Nat.reducePow, Nat.reduceSub, Nat.reduceLT, Nat.reduceEqDiff, Nat.reduceAdd, Nat.reduceMul, ↓reduceIte, reduceCtorEq, tabSm, tSmall38, unsl_sl]
      have hkS : k = l.length := by simp at hb; omega
      subst hkS
      rw [List.take_length] at hall
      simp only [smallAs, hall]
      simp
      omega
end Go.Eng.Tryz

/- Contracts of chapter 42: no purges. -/
namespace Go.Eng.Tryz
open Go.Proofs
attribute [local go_sem] oss_nil_eq Int.toNat_natCast maxLen Nat.zero_le run step opv slotV opvs dstLt evalQ constV isA setD upd_app guardB List.getD_cons_zero List.getD_cons_succ List.getD_nil V.tag V.cells decide_true decide_false Bool.false_eq_true if_false if_true ne_eq Nat.one_ne_zero not_false_eq_true keyKind cellOk List.forall_mem_cons List.not_mem_nil false_implies true_and and_true implies_true forall_const bump addrAdd loadA loadV part opV binV eqlV eqOk pickV unV convV boundV fillV storeTo splice List.getElem?_cons_zero List.getElem?_cons_succ List.take_succ_cons List.take_zero List.drop_succ_cons List.drop_zero List.length_cons List.length_nil List.cons_append List.nil_append List.append_nil List.getElem_toArray List.getElem?_toArray List.size_toArray and_self eqV_tupl eqV_tupr fbt tbf beq_self_eq_true Bool.not_false Bool.not_true cond_true cond_false newVarW updH_self updH_updH isFuncFn runT stepT stepC isCallV callOf callV escL memN runW stepW stepCW runD stepD safeB slots ownS stepOwn reads runM stepM emptyH softEq V.soft softs readSl chunks partsV delKV slice0V stepE runE
set_option linter.unusedSimpArgs false
set_option linter.unusedVariables false

theorem s57_none (floor : Int) (h0 : 0 ≤ floor) (h1 : floor ≤ 1099511627776) (M : Heap) :
    Spec Tryz.prog 57 [.lst [], .int .i64 floor] M fun r M' => ∃ og, M og = none ∧ r = .tup [.ptr og 0, .int .i64 0] ∧ M' = updH M og (.cells [.int .i64 floor, .nils]) := by
  refine Spec.strip (escL [17]) ok57 (by simp) ?_
  unfold c57
  refine wps_seq_k fun K1 hK1 => wps_regT tabSm tabSm_ok ?_; simp only [go_sem, Nat.reduceLeDiff, Nat.reducePow, Nat.reduceSub, Nat.reduceLT, Nat.reduceEqDiff, Nat.reduceAdd, Nat.reduceMul, ↓reduceIte, reduceCtorEq, tabSm]; (first | (refine hK1 _ ?_; clear hK1 K1) | (refine ⟨?_, hK1 _ ?_⟩ <;> clear hK1 K1; first | (· (simp; done)) | (· (simp +contextual; done)) | (· (simp +contextual; omega)) | (· grind) | skip))
  refine wps_seq_k fun K2 hK2 => ?_
  refine wps_seq_k fun K1 hK1 => wps_regT tabSm tabSm_ok ?_; simp only [go_sem, Nat.reduceLeDiff, Nat.reducePow, Nat.reduceSub, Nat.reduceLT, Nat.reduceEqDiff, Nat.reduceAdd, Nat.reduceMul, ↓reduceIte, reduceCtorEq, tabSm, und2]; (first | (refine hK1 _ ?_; clear hK1 K1) | (refine ⟨?_, hK1 _ ?_⟩ <;> clear hK1 K1; first | (· (simp; done)) | (· (simp +contextual; done)) | (· (simp +contextual; omega)) | (· grind) | skip))
  refine wps_cond (by simp only [go_sem, Nat.reduceLeDiff, Nat.reducePow, Nat.reduceSub, Nat.reduceLT, Nat.reduceEqDiff, Nat.reduceAdd, Nat.reduceMul, ↓reduceIte, reduceCtorEq, tabSm]; rfl) (by simp) (fun hb => ?_) (fun hb => ?_)
  · simp at hb; omega
  refine hK2 _ ?_; clear hK2 K2
  refine wps_seq_k fun K1 hK1 => wps_regT tabSm tabSm_ok ?_; simp only [go_sem, Nat.reduceLeDiff, Nat.reducePow, Nat.reduceSub, Nat.reduceLT, Nat.reduceEqDiff, Nat.reduceAdd, Nat.reduceMul, ↓reduceIte, reduceCtorEq, tabSm, bs176, fi176_0, zero176]; (first | (with_reducible refine oss_obl ?_ ?_; first | (· (simp; done)) | (· (simp +contextual; done)) | (· (simp +contextual; omega)) | (· grind) | skip) | skip)
  refine oss_op rfl rfl ?_; simp only [opw, SO.oper, go_sem, Nat.reduceLeDiff, Nat.reducePow, Nat.reduceSub, Nat.reduceLT, Nat.reduceEqDiff, Nat.reduceAdd, Nat.reduceMul, ↓reduceIte, reduceCtorEq, tabSm]
  intro og hog
  refine oss_runT tabSm tabSm_ok ?_; simp only [go_sem, Nat.reduceLeDiff, Nat.reducePow, Nat.reduceSub, Nat.reduceLT, Nat.reduceEqDiff, Nat.reduceAdd, Nat.reduceMul, ↓reduceIte, reduceCtorEq, tabSm]
  refine hK1 _ ?_; clear hK1 K1
  refine wps_seq_k fun K3 hK3 => ?_
  refine wps_seq_k fun K1 hK1 => wps_regT tabSm tabSm_ok ?_; simp only [go_sem, Nat.reduceLeDiff, Nat.reducePow, Nat.reduceSub, Nat.reduceLT, Nat.reduceEqDiff, Nat.reduceAdd, Nat.reduceMul, ↓reduceIte, reduceCtorEq, tabSm, und131]; (first | (refine hK1 _ ?_; clear hK1 K1) | (refine ⟨?_, hK1 _ ?_⟩ <;> clear hK1 K1; first | (· (simp; done)) | (· (simp +contextual; done)) | (· (simp +contextual; omega)) | (· grind) | skip))
  refine wps_block (wps_rounds 1 ?_)
  rw [loopW_succ]
  refine wps_seq_k fun K1 hK1 => wps_regT tabSm tabSm_ok ?_; simp only [go_sem, Nat.reduceLeDiff, Nat.reducePow, Nat.reduceSub, Nat.reduceLT, Nat.reduceEqDiff, Nat.reduceAdd, Nat.reduceMul, ↓reduceIte, reduceCtorEq, tabSm]; (first | (refine hK1 _ ?_; clear hK1 K1) | (refine ⟨?_, hK1 _ ?_⟩ <;> clear hK1 K1; first | (· (simp; done)) | (· (simp +contextual; done)) | (· (simp +contextual; omega)) | (· grind) | skip))
  refine wps_seq_k fun K4 hK4 => ?_
  refine wps_cond (by simp only [go_sem, Nat.reduceLeDiff, Nat.reducePow, Nat.reduceSub, Nat.reduceLT, Nat.reduceEqDiff, Nat.reduceAdd, Nat.reduceMul, ↓reduceIte, reduceCtorEq, tabSm]; rfl) (by simp) (fun hb => ?_) (fun hb => ?_)
  · simp at hb
  refine hK3 _ ?_
  refine wps_seq_k fun K1 hK1 => wps_regT tabSm tabSm_ok ?_; simp only [go_sem, Nat.reduceLeDiff, Nat.reducePow, Nat.reduceSub, Nat.reduceLT, Nat.reduceEqDiff, Nat.reduceAdd, Nat.reduceMul, ↓reduceIte, reduceCtorEq, tabSm]; (first | (refine hK1 _ ?_; clear hK1 K1) | (refine ⟨?_, hK1 _ ?_⟩ <;> clear hK1 K1; first | (· (simp; done)) | (· (simp +contextual; done)) | (· (simp +contextual; omega)) | (· grind) | skip))
  simp only [wps, endQ, resV, resVs, resV1, go_sem, Nat.reduceLeDiff, Nat.reducePow, Nat.reduceSub, Nat.reduceLT, Nat.reduceEqDiff, Nat.reduceAdd, Nat.reduceMul, ↓reduceIte, reduceCtorEq, tabSm]
  exact ⟨og, hog, rfl, rfl⟩

theorem s16_none (M : Heap) :
    Spec Tryz.prog 16 [.agg [.int .i64 0, .lst []]] M fun r M' => ∃ og, M og = none ∧ r = .tup [.ptr og 0, .agg [.nils, .int .i64 0], .bool true] ∧ M' = updH M og (.cells [.int .i64 0, .nils]) := by
  refine Spec.strip (escL [1000003]) ok16 (by simp) ?_
  unfold c16
  refine wps_seq_k fun K1 hK1 => wps_regT tabSm tabSm_ok ?_; simp only [go_sem, Nat.reduceLeDiff, Nat.reducePow, Nat.reduceSub, Nat.reduceLT, Nat.reduceEqDiff, Nat.reduceAdd, Nat.reduceMul, ↓reduceIte, reduceCtorEq, tabSm, zero67]; (first | (refine hK1 _ ?_; clear hK1 K1) | (refine ⟨?_, hK1 _ ?_⟩ <;> clear hK1 K1; first | (· (simp; done)) | (· (simp +contextual; done)) | (· (simp +contextual; omega)) | (· grind) | skip))
  refine wps_seq_k fun K1 hK1 => wps_regT tabSm tabSm_ok ?_; simp only [go_sem, Nat.reduceLeDiff, Nat.reducePow, Nat.reduceSub, Nat.reduceLT, Nat.reduceEqDiff, Nat.reduceAdd, Nat.reduceMul, ↓reduceIte, reduceCtorEq, tabSm, bs67, fi61_0, fi67_1, ti2, ti67, zero67]; (first | (refine hK1 _ ?_; clear hK1 K1) | (refine ⟨?_, hK1 _ ?_⟩ <;> clear hK1 K1; first | (· (simp; done)) | (· (simp +contextual; done)) | (· (simp +contextual; omega)) | (· grind) | skip))
  refine wps_seq_k fun K1 hK1 => wps_regT tabSm tabSm_ok ?_; simp only [go_sem, Nat.reduceLeDiff, Nat.reducePow, Nat.reduceSub, Nat.reduceLT, Nat.reduceEqDiff, Nat.reduceAdd, Nat.reduceMul, ↓reduceIte, reduceCtorEq, tabSm]; (first | (refine hK1 _ ?_; clear hK1 K1) | (refine ⟨?_, hK1 _ ?_⟩ <;> clear hK1 K1; first | (· (simp; done)) | (· (simp +contextual; done)) | (· (simp +contextual; omega)) | (· grind) | skip))
  refine wps_seq_k fun K2 hK2 => ?_
  refine wps_seq_k fun K1 hK1 => wps_regT tabSm tabSm_ok ?_; simp only [go_sem, Nat.reduceLeDiff, Nat.reducePow, Nat.reduceSub, Nat.reduceLT, Nat.reduceEqDiff, Nat.reduceAdd, Nat.reduceMul, ↓reduceIte, reduceCtorEq, tabSm, fi61_0, fi61_1, ti2, ti59, und59]; (first | (refine hK1 _ ?_; clear hK1 K1) | (refine ⟨?_, hK1 _ ?_⟩ <;> clear hK1 K1; first | (· (simp; done)) | (· (simp +contextual; done)) | (· (simp +contextual; omega)) | (· grind) | skip))
  refine wps_cond (by simp only [go_sem, Nat.reduceLeDiff, Nat.reducePow, Nat.reduceSub, Nat.reduceLT, Nat.reduceEqDiff, Nat.reduceAdd, Nat.reduceMul, ↓reduceIte, reduceCtorEq, tabSm]; rfl) (by simp) (fun hb => ?_) (fun hb => ?_)
  · simp at hb
  refine hK2 _ ?_; clear hK2 K2
  refine wps_seq_k fun K3 hK3 => ?_
  refine wps_seq_k fun K1 hK1 => wps_regT tabSm tabSm_ok ?_; simp only [go_sem, Nat.reduceLeDiff, Nat.reducePow, Nat.reduceSub, Nat.reduceLT, Nat.reduceEqDiff, Nat.reduceAdd, Nat.reduceMul, ↓reduceIte, reduceCtorEq, tabSm, fi61_1, ti59, und59]; (first | (refine hK1 _ ?_; clear hK1 K1) | (refine ⟨?_, hK1 _ ?_⟩ <;> clear hK1 K1; first | (· (simp; done)) | (· (simp +contextual; done)) | (· (simp +contextual; omega)) | (· grind) | skip))
  refine wps_block (wps_rounds 1 ?_)
  rw [loopW_succ]
  refine wps_seq_k fun K1 hK1 => wps_regT tabSm tabSm_ok ?_; simp only [go_sem, Nat.reduceLeDiff, Nat.reducePow, Nat.reduceSub, Nat.reduceLT, Nat.reduceEqDiff, Nat.reduceAdd, Nat.reduceMul, ↓reduceIte, reduceCtorEq, tabSm]; (first | (refine hK1 _ ?_; clear hK1 K1) | (refine ⟨?_, hK1 _ ?_⟩ <;> clear hK1 K1; first | (· (simp; done)) | (· (simp +contextual; done)) | (· (simp +contextual; omega)) | (· grind) | skip))
  refine wps_seq_k fun K4 hK4 => ?_
  refine wps_cond (by simp only [go_sem, Nat.reduceLeDiff, Nat.reducePow, Nat.reduceSub, Nat.reduceLT, Nat.reduceEqDiff, Nat.reduceAdd, Nat.reduceMul, ↓reduceIte, reduceCtorEq, tabSm]; rfl) (by simp) (fun hb => ?_) (fun hb => ?_)
  · simp at hb
  refine hK3 _ ?_
  refine wps_seq_k fun K1 hK1 => wps_regT tabSm tabSm_ok ?_; simp only [go_sem, Nat.reduceLeDiff, Nat.reducePow, Nat.reduceSub, Nat.reduceLT, Nat.reduceEqDiff, Nat.reduceAdd, Nat.reduceMul, ↓reduceIte, reduceCtorEq, tabSm, fi61_0, ti2]; (first | (with_reducible refine oss_obl ?_ ?_; first | (· (simp; done)) | (· (simp +contextual; done)) | (· (simp +contextual; omega)) | (· grind) | skip) | skip)
  refine oss_call rfl (by simp only [go_sem, Nat.reduceLeDiff, Nat.reducePow, Nat.reduceSub, Nat.reduceLT, Nat.reduceEqDiff, Nat.reduceAdd, Nat.reduceMul, ↓reduceIte, reduceCtorEq, tabSm]; rfl) (by simp) (s57_none 0 (by omega) (by omega) M) ?_; rintro _ _ ⟨og, hog, rfl, rfl⟩
  refine oss_runT tabSm tabSm_ok ?_; simp only [go_sem, Nat.reduceLeDiff, Nat.reducePow, Nat.reduceSub, Nat.reduceLT, Nat.reduceEqDiff, Nat.reduceAdd, Nat.reduceMul, ↓reduceIte, reduceCtorEq, tabSm]; (first | (refine hK1 _ ?_; clear hK1 K1) | (refine ⟨?_, hK1 _ ?_⟩ <;> clear hK1 K1; first | (· (simp; done)) | (· (simp +contextual; done)) | (· (simp +contextual; omega)) | (· grind) | skip))
  refine wps_seq_k fun K1 hK1 => wps_drawD tabSm tabSm_ok (by kernel_rfl) rfl (by kernel_rfl) (by simp only [go_sem, Nat.reduceLeDiff, Nat.reducePow, Nat.reduceSub, Nat.reduceLT, Nat.reduceEqDiff, Nat.reduceAdd, Nat.reduceMul, ↓reduceIte, reduceCtorEq, tabSm, eq64c, ti67]; rfl) ?_; (first | (refine hK1 _ ?_; clear hK1 K1) | (refine ⟨?_, hK1 _ ?_⟩ <;> clear hK1 K1; first | (· (simp; done)) | (· (simp +contextual; done)) | (· (simp +contextual; omega)) | (· grind) | skip))
  simp only [wps, endQ, resV, resVs, resV1, go_sem, Nat.reduceLeDiff, Nat.reducePow, Nat.reduceSub, Nat.reduceLT, Nat.reduceEqDiff, Nat.reduceAdd, Nat.reduceMul, ↓reduceIte, reduceCtorEq, tabSm, ti67]
  exact ⟨og, hog, rfl, rfl⟩
end Go.Eng.Tryz

/- Chapter 42: of no table nothing is told: the law. -/
namespace Go.Eng.Tryz
open Go.Proofs
attribute [local go_sem] oss_nil_eq Int.toNat_natCast maxLen Nat.zero_le run step opv slotV opvs dstLt evalQ constV isA setD upd_app guardB List.getD_cons_zero List.getD_cons_succ List.getD_nil V.tag V.cells decide_true decide_false Bool.false_eq_true if_false if_true ne_eq Nat.one_ne_zero not_false_eq_true keyKind cellOk List.forall_mem_cons List.not_mem_nil false_implies true_and and_true implies_true forall_const bump addrAdd loadA loadV part opV binV eqlV eqOk pickV unV convV boundV fillV storeTo splice List.getElem?_cons_zero List.getElem?_cons_succ List.take_succ_cons List.take_zero List.drop_succ_cons List.drop_zero List.length_cons List.length_nil List.cons_append List.nil_append List.append_nil List.getElem_toArray List.getElem?_toArray List.size_toArray and_self eqV_tupl eqV_tupr fbt tbf beq_self_eq_true Bool.not_false Bool.not_true cond_true cond_false newVarW updH_self updH_updH isFuncFn runT stepT stepC isCallV callOf callV escL memN runW stepW stepCW runD stepD safeB slots ownS stepOwn reads runM stepM emptyH softEq V.soft softs readSl chunks partsV delKV slice0V stepE runE
set_option linter.unusedSimpArgs false
set_option linter.unusedVariables false

def tWakes : List V → Option (Prop × V)
  | [] => some (True, .bool true)
  | _ => none
def deAct : List V → Option ActD
  | [.int .u8 kind, .str obj, .int .i64 r0, .str t, .bool w, .int .i64 mod, .int .i64 len, .int .i64 have_, .int .i64 fresh, .int .i64 while_, .int .i64 err, .lst es, .str ten, .bool keep, .int .i64 ra, .int .i64 rb, .int .i64 age, .int .i64 a, .int .i64 b, .int .i64 c, .int .i64 id, .int .i64 x, .int .i64 y, .int .i64 have2, .int .i64 len2] => match unsl es with
    | some ks => some ⟨kind, obj, r0, ⟨t, w, mod, len, have_, fresh, while_, err, ks, ten, keep⟩, ra, rb, age, a, b, c, id, x, y, have2, len2⟩
    | none => none
  | _ => none
theorem deAct_eq {l : List V} {a : ActD} (h : deAct l = some a) : l = actL a := by
  unfold deAct at h
  split at h
  · split at h <;> cases h
    rename_i hu
    rw [unsl_eq hu]
    rfl
  · cases h
def tSmall42 : List V → Option (Prop × V)
  | [.lst [l]] => match deAct l with
    | some a => some (True, .bool (smallAs [a]))
    | none => none
  | _ => none
def tAsked : List V → Option (Prop × V)
  | [.agg [.int .i64 a, .int .i64 b, .int .i64 c]] => some (True, .agg [.int .i64 a, .int .i64 b, .int .i64 c])
  | _ => none
def tLand0 : List V → Option (Prop × V)
  | [.nilp, .str _, .agg [.int .i64 _, .str _, .bool _, .int .i64 _, .int .i64 _, .int .i64 _, .int .i64 _, .int .i64 _, .int .i64 _, .lst es, .str _, .bool _, .int .i64 _, .int .i64 _, .int .i64 _], .agg [.int .i64 _, .int .i64 _, .int .i64 _]] => match unsl es with
    | some _ => some (True, .tup [.int .i64 0, .bool false])
    | none => none
  | _ => none
def tUse0 : List V → Option (Prop × V)
  | [.nilp, .str _, .agg [.int .i64 _, .int .i64 _, .int .i64 _], .ptr _ 0] => some (True, .tup [.int .i64 0, .int .i64 4])
  | _ => none
def tGet0 : List V → Option (Prop × V)
  | [.nilp, .int .i64 _] => some (True, .tup [zeroE, .bool false])
  | _ => none
def tLast0 : List V → Option (Prop × V)
  | [.nilp, .str _] => some (True, .tup [.int .i64 0, .bool false])
  | _ => none
def tConfirm0 : List V → Option (Prop × V)
  | [.nilp, .int .i64 _, .agg [.int .i64 _, .int .i64 _, .int .i64 _]] => some (True, .int .i64 1)
  | _ => none
def tGone0 : List V → Option (Prop × V)
  | [.nilp, .str _, .agg [.int .i64 _, .int .i64 _, .int .i64 _]] => some (True, .nils)
  | _ => none
def tFill0 : List V → Option (Prop × V)
  | [.nilp, .int .i64 _, .agg [.int .i64 _, .int .i64 _]] => some (True, .int .i64 1)
  | _ => none
def tLearn0 : List V → Option (Prop × V)
  | [.nilp, .int .i64 _, .int .i64 _, .int .i64 _] => some (True, .int .i64 1)
  | _ => none
def tDrop0 : List V → Option (Prop × V)
  | [.nilp, .int .i64 _] => some (True, .bool false)
  | _ => none
def tAll0 : List V → Option (Prop × V)
  | [.nilp] => some (True, .nils)
  | _ => none
def tHas0 : List V → Option (Prop × V)
  | [.nilp, .int .i64 _] => some (True, .agg [.nils])
  | _ => none
def tLen0 : List V → Option (Prop × V)
  | [.agg [.lst []]] => some (True, .int .i64 0)
  | _ => none
def tabZ : Tab := fun _ id vs => match id with
  | 9 => tWakes vs
  | 10 => tSmall42 vs
  | 19 => tAsked vs
  | 27 => tLand0 vs
  | 18 => tUse0 vs
  | 20 => tGet0 vs
  | 25 => tLast0 vs
  | 28 => tConfirm0 vs
  | 29 => tGone0 vs
  | 30 => tFill0 vs
  | 31 => tFill0 vs
  | 32 => tLearn0 vs
  | 33 => tDrop0 vs
  | 24 => tAll0 vs
  | 34 => tHas0 vs
  | 35 => tLen0 vs
  | _ => none
theorem tabZ_ok : TabOk Tryz.prog tabZ := by
  intro M id vs g r h hg
  unfold tabZ at h
  split at h
  · unfold tWakes at h
    split at h <;> cases h
    exact s9 _
  · unfold tSmall42 at h
    split at h <;> try (cases h; done)
    split at h <;> cases h
    rename_i ha
    rw [deAct_eq ha]
    exact s10 [_] _
  · unfold tAsked at h
    split at h <;> cases h
    exact s19 _ _ _ _
  · unfold tLand0 at h
    split at h <;> try (cases h; done)
    split at h <;> cases h
    rename_i hu
    rw [unsl_eq hu]
    exact s27_nil _ _ ⟨_, _, _, _, _, _, _, _, _, _, _⟩ _ _ _ _ _ _ _
  · unfold tUse0 at h
    split at h <;> cases h
    exact s18_nil _ _ _ _ _ _
  · unfold tGet0 at h
    split at h <;> cases h
    exact s20_nil _ _
  · unfold tLast0 at h
    split at h <;> cases h
    exact s25_nil _ _
  · unfold tConfirm0 at h
    split at h <;> cases h
    exact s28_nil _ _ _ _ _
  · unfold tGone0 at h
    split at h <;> cases h
    exact s29_nil _ _ _ _ _
  · unfold tFill0 at h
    split at h <;> cases h
    exact s30_nil _ _ _ _
  · unfold tFill0 at h
    split at h <;> cases h
    exact s31_nil _ _ _ _
  · unfold tLearn0 at h
    split at h <;> cases h
    exact s32_nil _ _ _ _
  · unfold tDrop0 at h
    split at h <;> cases h
    exact s33_nil _ _
  · unfold tAll0 at h
    split at h <;> cases h
    exact s24_nil _
  · unfold tHas0 at h
    split at h <;> cases h
    exact s34_nil _ _
  · unfold tLen0 at h
    split at h <;> cases h
    exact s35_none _
  · cases h

theorem deAct_c (kind : Int) (obj : B) (r0 : Int) (t : B) (w : Bool) (mod len have_ fresh while_ err : Int) (ks : List B) (ten : B) (keep : Bool) (ra rb age a b c id x y have2 len2 : Int) :
    deAct [.int .u8 kind, .str obj, .int .i64 r0, .str t, .bool w, .int .i64 mod, .int .i64 len, .int .i64 have_, .int .i64 fresh, .int .i64 while_, .int .i64 err, .lst (sl ks), .str ten, .bool keep, .int .i64 ra, .int .i64 rb, .int .i64 age, .int .i64 a, .int .i64 b, .int .i64 c, .int .i64 id, .int .i64 x, .int .i64 y, .int .i64 have2, .int .i64 len2] = some ⟨kind, obj, r0, ⟨t, w, mod, len, have_, fresh, while_, err, ks, ten, keep⟩, ra, rb, age, a, b, c, id, x, y, have2, len2⟩ := by
  simp only [deAct, unsl_sl]

set_option maxRecDepth 100000 in
theorem s8 (a : ActD) (M : Heap) : Pure Tryz.prog 8 [.agg (actL a)] M (.bool true) := by
  refine Spec.forget (Spec.strip (fun _ => false) ok8 (by simp) ?_) (by simp [refsOk])
  obtain ⟨kind, obj, r0, ⟨mt, mw, mm, ml, mh, mf, mwh, mer, mk, mten, mkeep⟩, ra, rb, age, aa, ab, ac, id, x, y, have2, len2⟩ := a
  simp only [actL]
  unfold c8
  refine wps_seq_k fun K1 hK1 => wps_regT tabZ tabZ_ok ?_; simp only [go_sem, Nat.reduceLeDiff, Nat.reducePow, Nat.reduceSub, Nat.reduceLT, Nat.reduceEqDiff, Nat.reduceAdd, Nat.reduceMul, ↓reduceIte, reduceCtorEq, tabZ, tWakes, tSmall42, deAct_c, tAsked, tLand0, tUse0, tGet0, tLast0, tConfirm0, tGone0, tFill0, tLearn0, tDrop0, tAll0, tHas0, tLen0, unsl_sl]; (first | (refine hK1 _ ?_; clear hK1 K1) | (refine ⟨?_, hK1 _ ?_⟩ <;> clear hK1 K1; first | (· (simp; done)) | (· (simp +contextual; done)) | (· (simp +contextual; omega)) | (· grind) | skip))
  refine wps_seq_k fun K2 hK2 => ?_
  refine wps_seq_k fun K1 hK1 => wps_regT tabZ tabZ_ok ?_; simp only [go_sem, Nat.reduceLeDiff, Nat.reducePow, Nat.reduceSub, Nat.reduceLT, Nat.reduceEqDiff, Nat.reduceAdd, Nat.reduceMul, ↓reduceIte, reduceCtorEq, tabZ, tWakes, tSmall42, deAct_c, tAsked, tLand0, tUse0, tGet0, tLast0, tConfirm0, tGone0, tFill0, tLearn0, tDrop0, tAll0, tHas0, tLen0, unsl_sl]; (first | (refine hK1 _ ?_; clear hK1 K1) | (refine ⟨?_, hK1 _ ?_⟩ <;> clear hK1 K1; first | (· (simp; done)) | (· (simp +contextual; done)) | (· (simp +contextual; omega)) | (· grind) | skip))
  refine wps_cond (by simp only [go_sem, Nat.reduceLeDiff, Nat.reducePow, Nat.reduceSub, Nat.reduceLT, Nat.reduceEqDiff, Nat.reduceAdd, Nat.reduceMul, ↓reduceIte, reduceCtorEq, tabZ, tWakes, tSmall42, deAct_c, tAsked, tLand0, tUse0, tGet0, tLast0, tConfirm0, tGone0, tFill0, tLearn0, tDrop0, tAll0, tHas0, tLen0, unsl_sl]; rfl) (by simp) (fun hb => ?_) (fun hb => ?_)
  · simp at hb
  refine hK2 _ ?_; clear hK2 K2
  refine wps_seq_k fun K2 hK2 => ?_
  refine wps_seq_k fun K1 hK1 => wps_regT tabZ tabZ_ok ?_; simp only [go_sem, Nat.reduceLeDiff, Nat.reducePow, Nat.reduceSub, Nat.reduceLT, Nat.reduceEqDiff, Nat.reduceAdd, Nat.reduceMul, ↓reduceIte, reduceCtorEq, tabZ, tWakes, tSmall42, deAct_c, tAsked, tLand0, tUse0, tGet0, tLast0, tConfirm0, tGone0, tFill0, tLearn0, tDrop0, tAll0, tHas0, tLen0, unsl_sl, ti47, und22, zero47]; (first | (with_reducible refine oss_obl ?_ ?_; first | (· (simp; done)) | (· (simp +contextual; done)) | (· (simp +contextual; omega)) | (· grind) | skip) | skip)
  refine oss_build (by rfl) und22 ti47 (by simp only [go_sem, Nat.reduceLeDiff, Nat.reducePow, Nat.reduceSub, Nat.reduceLT, Nat.reduceEqDiff, Nat.reduceAdd, Nat.reduceMul, ↓reduceIte, reduceCtorEq, tabZ, tWakes, tSmall42, deAct_c, tAsked, tLand0, tUse0, tGet0, tLast0, tConfirm0, tGone0, tFill0, tLearn0, tDrop0, tAll0, tHas0, tLen0, unsl_sl]; rfl) (by simp [V.tag, cellOk, V.cells]) (by simp) (by simp) (by simp) zero47 (by simp [V.cells]) rfl ?_
  refine oss_runT tabZ tabZ_ok ?_; simp only [go_sem, Nat.reduceLeDiff, Nat.reducePow, Nat.reduceSub, Nat.reduceLT, Nat.reduceEqDiff, Nat.reduceAdd, Nat.reduceMul, ↓reduceIte, reduceCtorEq, tabZ, tWakes, tSmall42, deAct_c, tAsked, tLand0, tUse0, tGet0, tLast0, tConfirm0, tGone0, tFill0, tLearn0, tDrop0, tAll0, tHas0, tLen0, unsl_sl]; (first | (refine hK1 _ ?_; clear hK1 K1) | (refine ⟨?_, hK1 _ ?_⟩ <;> clear hK1 K1; first | (· (simp; done)) | (· (simp +contextual; done)) | (· (simp +contextual; omega)) | (· grind) | skip))
  refine wps_cond (by simp only [go_sem, Nat.reduceLeDiff, Nat.reducePow, Nat.reduceSub, Nat.reduceLT, Nat.reduceEqDiff, Nat.reduceAdd, Nat.reduceMul, ↓reduceIte, reduceCtorEq, tabZ, tWakes, tSmall42, deAct_c, tAsked, tLand0, tUse0, tGet0, tLast0, tConfirm0, tGone0, tFill0, tLearn0, tDrop0, tAll0, tHas0, tLen0, unsl_sl]; rfl) (by simp) (fun hb => ?_) (fun hb => ?_)
  · refine wps_seq_k fun K1 hK1 => wps_regT tabZ tabZ_ok ?_; simp only [go_sem, Nat.reduceLeDiff, Nat.reducePow, Nat.reduceSub, Nat.reduceLT, Nat.reduceEqDiff, Nat.reduceAdd, Nat.reduceMul, ↓reduceIte, reduceCtorEq, tabZ, tWakes, tSmall42, deAct_c, tAsked, tLand0, tUse0, tGet0, tLast0, tConfirm0, tGone0, tFill0, tLearn0, tDrop0, tAll0, tHas0, tLen0, unsl_sl]; (first | (refine hK1 _ ?_; clear hK1 K1) | (refine ⟨?_, hK1 _ ?_⟩ <;> clear hK1 K1; first | (· (simp; done)) | (· (simp +contextual; done)) | (· (simp +contextual; omega)) | (· grind) | skip))
    simp only [wps, endQ, resV, resVs, resV1, go_sem, Nat.reduceLeDiff, Nat.reducePow, Nat.reduceSub, Nat.reduceLT, Nat.reduceEqDiff, Nat.reduceAdd, Nat.reduceMul, ↓reduceIte, reduceCtorEq, tabZ, tWakes, tSmall42, deAct_c, tAsked, tLand0, tUse0, tGet0, tLast0, tConfirm0, tGone0, tFill0, tLearn0, tDrop0, tAll0, tHas0, tLen0, unsl_sl]
    exact fun _ _ h => h
  refine hK2 _ ?_; clear hK2 K2
  refine wps_seq_k fun K1 hK1 => wps_regT tabZ tabZ_ok ?_; simp only [go_sem, Nat.reduceLeDiff, Nat.reducePow, Nat.reduceSub, Nat.reduceLT, Nat.reduceEqDiff, Nat.reduceAdd, Nat.reduceMul, ↓reduceIte, reduceCtorEq, tabZ, tWakes, tSmall42, deAct_c, tAsked, tLand0, tUse0, tGet0, tLast0, tConfirm0, tGone0, tFill0, tLearn0, tDrop0, tAll0, tHas0, tLen0, unsl_sl]; (first | (refine hK1 _ ?_; clear hK1 K1) | (refine ⟨?_, hK1 _ ?_⟩ <;> clear hK1 K1; first | (· (simp; done)) | (· (simp +contextual; done)) | (· (simp +contextual; omega)) | (· grind) | skip))
  refine wps_seq_k fun K1 hK1 => wps_regT tabZ tabZ_ok ?_; simp only [go_sem, Nat.reduceLeDiff, Nat.reducePow, Nat.reduceSub, Nat.reduceLT, Nat.reduceEqDiff, Nat.reduceAdd, Nat.reduceMul, ↓reduceIte, reduceCtorEq, tabZ, tWakes, tSmall42, deAct_c, tAsked, tLand0, tUse0, tGet0, tLast0, tConfirm0, tGone0, tFill0, tLearn0, tDrop0, tAll0, tHas0, tLen0, unsl_sl, zero61, bs61]; (first | (with_reducible refine oss_obl ?_ ?_; first | (· (simp; done)) | (· (simp +contextual; done)) | (· (simp +contextual; omega)) | (· grind) | skip) | skip)
  refine oss_call rfl (by simp only [go_sem, Nat.reduceLeDiff, Nat.reducePow, Nat.reduceSub, Nat.reduceLT, Nat.reduceEqDiff, Nat.reduceAdd, Nat.reduceMul, ↓reduceIte, reduceCtorEq, tabZ, tWakes, tSmall42, deAct_c, tAsked, tLand0, tUse0, tGet0, tLast0, tConfirm0, tGone0, tFill0, tLearn0, tDrop0, tAll0, tHas0, tLen0, unsl_sl]; rfl) (by simp) (s16_none M) ?_; rintro _ M1 ⟨og, hog, rfl, hM1⟩
  refine oss_runT tabZ tabZ_ok ?_; simp only [go_sem, Nat.reduceLeDiff, Nat.reducePow, Nat.reduceSub, Nat.reduceLT, Nat.reduceEqDiff, Nat.reduceAdd, Nat.reduceMul, ↓reduceIte, reduceCtorEq, tabZ, tWakes, tSmall42, deAct_c, tAsked, tLand0, tUse0, tGet0, tLast0, tConfirm0, tGone0, tFill0, tLearn0, tDrop0, tAll0, tHas0, tLen0, unsl_sl, zero67, ti67]; (first | (refine hK1 _ ?_; clear hK1 K1) | (refine ⟨?_, hK1 _ ?_⟩ <;> clear hK1 K1; first | (· (simp; done)) | (· (simp +contextual; done)) | (· (simp +contextual; omega)) | (· grind) | skip))
  refine wps_seq_k fun K2 hK2 => ?_
  refine wps_seq_k fun K1 hK1 => wps_regT tabZ tabZ_ok ?_; simp only [go_sem, Nat.reduceLeDiff, Nat.reducePow, Nat.reduceSub, Nat.reduceLT, Nat.reduceEqDiff, Nat.reduceAdd, Nat.reduceMul, ↓reduceIte, reduceCtorEq, tabZ, tWakes, tSmall42, deAct_c, tAsked, tLand0, tUse0, tGet0, tLast0, tConfirm0, tGone0, tFill0, tLearn0, tDrop0, tAll0, tHas0, tLen0, unsl_sl]; (first | (refine hK1 _ ?_; clear hK1 K1) | (refine ⟨?_, hK1 _ ?_⟩ <;> clear hK1 K1; first | (· (simp; done)) | (· (simp +contextual; done)) | (· (simp +contextual; omega)) | (· grind) | skip))
  refine wps_cond (by simp only [go_sem, Nat.reduceLeDiff, Nat.reducePow, Nat.reduceSub, Nat.reduceLT, Nat.reduceEqDiff, Nat.reduceAdd, Nat.reduceMul, ↓reduceIte, reduceCtorEq, tabZ, tWakes, tSmall42, deAct_c, tAsked, tLand0, tUse0, tGet0, tLast0, tConfirm0, tGone0, tFill0, tLearn0, tDrop0, tAll0, tHas0, tLen0, unsl_sl]; rfl) (by simp) (fun hb => ?_) (fun hb => ?_)
  · simp at hb
  refine hK2 _ ?_; clear hK2 K2
  refine wps_seq_k fun K1 hK1 => wps_drawD tabZ tabZ_ok (by kernel_rfl) rfl (by kernel_rfl) (by simp only [go_sem, Nat.reduceLeDiff, Nat.reducePow, Nat.reduceSub, Nat.reduceLT, Nat.reduceEqDiff, Nat.reduceAdd, Nat.reduceMul, ↓reduceIte, reduceCtorEq, tabZ, tWakes, tSmall42, deAct_c, tAsked, tLand0, tUse0, tGet0, tLast0, tConfirm0, tGone0, tFill0, tLearn0, tDrop0, tAll0, tHas0, tLen0, unsl_sl, fi47_1, fi47_2, fi47_3, ti9, ti43, ti45]; rfl) ?_; (first | (refine hK1 _ ?_; clear hK1 K1) | (refine ⟨?_, hK1 _ ?_⟩ <;> clear hK1 K1; first | (· (simp; done)) | (· (simp +contextual; done)) | (· (simp +contextual; omega)) | (· grind) | skip))
  refine wps_seq_k fun K1 hK1 => wps_drawD tabZ tabZ_ok (by kernel_rfl) rfl (by kernel_rfl) (by simp only [go_sem, Nat.reduceLeDiff, Nat.reducePow, Nat.reduceSub, Nat.reduceLT, Nat.reduceEqDiff, Nat.reduceAdd, Nat.reduceMul, ↓reduceIte, reduceCtorEq, tabZ, tWakes, tSmall42, deAct_c, tAsked, tLand0, tUse0, tGet0, tLast0, tConfirm0, tGone0, tFill0, tLearn0, tDrop0, tAll0, tHas0, tLen0, unsl_sl, fi47_1, fi47_3, ti9, ti45]; rfl) ?_; (first | (refine hK1 _ ?_; clear hK1 K1) | (refine ⟨?_, hK1 _ ?_⟩ <;> clear hK1 K1; first | (· (simp; done)) | (· (simp +contextual; done)) | (· (simp +contextual; omega)) | (· grind) | skip))
  refine wps_seq_k fun K1 hK1 => wps_regT tabZ tabZ_ok ?_; simp only [go_sem, Nat.reduceLeDiff, Nat.reducePow, Nat.reduceSub, Nat.reduceLT, Nat.reduceEqDiff, Nat.reduceAdd, Nat.reduceMul, ↓reduceIte, reduceCtorEq, tabZ, tWakes, tSmall42, deAct_c, tAsked, tLand0, tUse0, tGet0, tLast0, tConfirm0, tGone0, tFill0, tLearn0, tDrop0, tAll0, tHas0, tLen0, unsl_sl, fi47_4, ti2, zero57, ti57]; (first | (refine hK1 _ ?_; clear hK1 K1) | (refine ⟨?_, hK1 _ ?_⟩ <;> clear hK1 K1; first | (· (simp; done)) | (· (simp +contextual; done)) | (· (simp +contextual; omega)) | (· grind) | skip))
  refine wps_seq_k fun K1 hK1 => wps_regT tabZ tabZ_ok ?_; simp only [go_sem, Nat.reduceLeDiff, Nat.reducePow, Nat.reduceSub, Nat.reduceLT, Nat.reduceEqDiff, Nat.reduceAdd, Nat.reduceMul, ↓reduceIte, reduceCtorEq, tabZ, tWakes, tSmall42, deAct_c, tAsked, tLand0, tUse0, tGet0, tLast0, tConfirm0, tGone0, tFill0, tLearn0, tDrop0, tAll0, tHas0, tLen0, unsl_sl, fi47_1, ti9]; (first | (refine hK1 _ ?_; clear hK1 K1) | (refine ⟨?_, hK1 _ ?_⟩ <;> clear hK1 K1; first | (· (simp; done)) | (· (simp +contextual; done)) | (· (simp +contextual; omega)) | (· grind) | skip))
  refine wps_frame [(1, .box 0 [V.int .u8 kind, .str obj, .int .i64 r0, .str mt, .bool mw, .int .i64 mm, .int .i64 ml, .int .i64 mh, .int .i64 mf, .int .i64 mwh, .int .i64 mer, .lst (sl mk), .str mten, .bool mkeep, .int .i64 ra, .int .i64 rb, .int .i64 age, .int .i64 aa, .int .i64 ab, .int .i64 ac, .int .i64 id, .int .i64 x, .int .i64 y, .int .i64 have2, .int .i64 len2]), (3, .nilp), (7, .int .i64 0), (8, .bool false), (9, .int .i64 0), (10, .int .i64 4), (12, .bool false), (13, .int .i64 0), (14, .bool false)] (by simp [upd]) (fun fr hfr => ?_)
  simp only [List.forall_mem_cons, List.not_mem_nil, false_implies, implies_true, and_true] at hfr
  obtain ⟨h1, h3, h7, h8, h9, h10, h12, h13, h14⟩ := hfr
  refine wps_seq_k fun K1 hK1 => wps_drawn tabZ tabZ_ok (by kernel_rfl) rfl (by kernel_rfl) ?_; simp only [slots, ownS, escL, memN, go_sem]
  refine drawn_cut 27 ?_; refine drawn_run (by simp only [go_sem, Nat.reduceLeDiff, Nat.reducePow, Nat.reduceSub, Nat.reduceLT, Nat.reduceEqDiff, Nat.reduceAdd, Nat.reduceMul, ↓reduceIte, reduceCtorEq, tabZ, tWakes, tSmall42, deAct_c, tAsked, tLand0, tUse0, tGet0, tLast0, tConfirm0, tGone0, tFill0, tLearn0, tDrop0, tAll0, tHas0, tLen0, unsl_sl, h1, h3, h7, h8, h9, h10, h12, h13, h14, ti2]; rfl) ⟨by simp, ?_⟩; simp only [List.drop_succ_cons, List.drop_zero]
  refine drawn_frame [(1, .box 0 [V.int .u8 kind, .str obj, .int .i64 r0, .str mt, .bool mw, .int .i64 mm, .int .i64 ml, .int .i64 mh, .int .i64 mf, .int .i64 mwh, .int .i64 mer, .lst (sl mk), .str mten, .bool mkeep, .int .i64 ra, .int .i64 rb, .int .i64 age, .int .i64 aa, .int .i64 ab, .int .i64 ac, .int .i64 id, .int .i64 x, .int .i64 y, .int .i64 have2, .int .i64 len2]), (3, .nilp), (92, .bool true)] (by simp [upd, h1, h3]) (fun fr hfr => ?_)
  clear h1 h3
  simp only [List.forall_mem_cons, List.not_mem_nil, false_implies, implies_true, and_true] at hfr
  obtain ⟨h1, h3, h92⟩ := hfr
  refine drawn_cut 30 ?_; refine drawn_run (by simp only [go_sem, Nat.reduceLeDiff, Nat.reducePow, Nat.reduceSub, Nat.reduceLT, Nat.reduceEqDiff, Nat.reduceAdd, Nat.reduceMul, ↓reduceIte, reduceCtorEq, tabZ, tWakes, tSmall42, deAct_c, tAsked, tLand0, tUse0, tGet0, tLast0, tConfirm0, tGone0, tFill0, tLearn0, tDrop0, tAll0, tHas0, tLen0, unsl_sl, h1, h3, h92, fi47_1, fi47_3, fi47_4, fi47_5, fi47_6, fi47_7, ti9, ti2, ti41, ti45, und89, und51, und2]; rfl) ⟨by simp, ?_⟩; simp only [List.drop_succ_cons, List.drop_zero]
  refine drawn_frame [(1, .box 0 [V.int .u8 kind, .str obj, .int .i64 r0, .str mt, .bool mw, .int .i64 mm, .int .i64 ml, .int .i64 mh, .int .i64 mf, .int .i64 mwh, .int .i64 mer, .lst (sl mk), .str mten, .bool mkeep, .int .i64 ra, .int .i64 rb, .int .i64 age, .int .i64 aa, .int .i64 ab, .int .i64 ac, .int .i64 id, .int .i64 x, .int .i64 y, .int .i64 have2, .int .i64 len2]), (3, .nilp), (122, .bool true)] (by simp [upd, h1, h3]) (fun fr hfr => ?_)
  clear h1 h3
  simp only [List.forall_mem_cons, List.not_mem_nil, false_implies, implies_true, and_true] at hfr
  obtain ⟨h1, h3, h122⟩ := hfr
  refine drawn_cut 27 ?_; refine drawn_run (by simp only [go_sem, Nat.reduceLeDiff, Nat.reducePow, Nat.reduceSub, Nat.reduceLT, Nat.reduceEqDiff, Nat.reduceAdd, Nat.reduceMul, ↓reduceIte, reduceCtorEq, tabZ, tWakes, tSmall42, deAct_c, tAsked, tLand0, tUse0, tGet0, tLast0, tConfirm0, tGone0, tFill0, tLearn0, tDrop0, tAll0, tHas0, tLen0, unsl_sl, h1, h3, h122, fi47_1, fi47_3, fi47_4, fi47_5, fi47_6, fi47_7, ti9, ti2, ti41, ti45, und89, und51, und2]; rfl) ⟨by simp, ?_⟩; simp only [List.drop_succ_cons, List.drop_zero]
  refine drawn_frame [(1, .box 0 [V.int .u8 kind, .str obj, .int .i64 r0, .str mt, .bool mw, .int .i64 mm, .int .i64 ml, .int .i64 mh, .int .i64 mf, .int .i64 mwh, .int .i64 mer, .lst (sl mk), .str mten, .bool mkeep, .int .i64 ra, .int .i64 rb, .int .i64 age, .int .i64 aa, .int .i64 ab, .int .i64 ac, .int .i64 id, .int .i64 x, .int .i64 y, .int .i64 have2, .int .i64 len2]), (3, .nilp), (149, .bool true)] (by simp [upd, h1, h3]) (fun fr hfr => ?_)
  clear h1 h3
  simp only [List.forall_mem_cons, List.not_mem_nil, false_implies, implies_true, and_true] at hfr
  obtain ⟨h1, h3, h149⟩ := hfr
  refine drawn_run (by simp only [go_sem, Nat.reduceLeDiff, Nat.reducePow, Nat.reduceSub, Nat.reduceLT, Nat.reduceEqDiff, Nat.reduceAdd, Nat.reduceMul, ↓reduceIte, reduceCtorEq, tabZ, tWakes, tSmall42, deAct_c, tAsked, tLand0, tUse0, tGet0, tLast0, tConfirm0, tGone0, tFill0, tLearn0, tDrop0, tAll0, tHas0, tLen0, unsl_sl, h1, h3, h149, fi47_1, fi47_3, fi47_4, fi47_5, fi47_6, fi47_7, ti9, ti2, ti41, ti45, und89, und51, und2]; rfl) ⟨by simp, hK1 _ ?_⟩; clear hK1 K1
  simp only [wps, endQ, resV, resVs, resV1, go_sem, Nat.reduceLeDiff, Nat.reducePow, Nat.reduceSub, Nat.reduceLT, Nat.reduceEqDiff, Nat.reduceAdd, Nat.reduceMul, ↓reduceIte, reduceCtorEq, tabZ, tWakes, tSmall42, deAct_c, tAsked, tLand0, tUse0, tGet0, tLast0, tConfirm0, tGone0, tFill0, tLearn0, tDrop0, tAll0, tHas0, tLen0, unsl_sl]
  intro o z hz
  rw [hM1]
  simp only [updH]
  split
  · rename_i e; rw [e, hog] at hz; cases hz
  · exact hz
end Go.Eng.Tryz
