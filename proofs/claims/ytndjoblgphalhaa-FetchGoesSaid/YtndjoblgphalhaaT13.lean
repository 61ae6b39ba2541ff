/- Contracts: the tables of a fetch's steps; what statements take; the example. -/
import Derived.Test.YtndjoblgphalhaaT12
namespace Go.Eng.Try
open Go.Proofs
attribute [local go_sem] oss_nil_eq Int.toNat_natCast maxLen Nat.zero_le run step opv slotV opvs dstLt evalQ constV isA setD upd_app guardB List.getD_cons_zero List.getD_cons_succ List.getD_nil V.tag V.cells decide_true decide_false Bool.false_eq_true if_false if_true ne_eq Nat.one_ne_zero not_false_eq_true keyKind cellOk List.forall_mem_cons List.not_mem_nil false_implies true_and and_true implies_true forall_const bump addrAdd loadA loadV part opV binV eqlV eqOk pickV unV convV boundV fillV storeTo splice List.getElem?_cons_zero List.getElem?_cons_succ List.take_succ_cons List.take_zero List.drop_succ_cons List.drop_zero List.length_cons List.length_nil List.cons_append List.nil_append List.append_nil List.getElem_toArray List.getElem?_toArray List.size_toArray and_self eqV_tupl eqV_tupr fbt tbf beq_self_eq_true Bool.not_false Bool.not_true cond_true cond_false newVarW updH_self updH_updH isFuncFn runT stepT stepC isCallV callOf callV escL memN runW stepW stepCW runD stepD safeB slots ownS stepOwn reads runM stepM emptyH
set_option linter.unusedSimpArgs false
set_option linter.unusedVariables false

def deFS : List V → Option FS
  | [.str fo, .int .i64 fa, .int .i64 fb, .str mt, .bool mw, .str nt, .bool nw, .int .i64 s, .int .i64 a, .int .i64 b] => some ⟨⟨fo, fa, fb, mt, mw, nt, nw⟩, s, a, b⟩
  | _ => none
theorem deFS_c (fo : B) (fa fb : Int) (mt : B) (mw : Bool) (nt : B) (nw : Bool) (s a b : Int) : deFS [.str fo, .int .i64 fa, .int .i64 fb, .str mt, .bool mw, .str nt, .bool nw, .int .i64 s, .int .i64 a, .int .i64 b] = some ⟨⟨fo, fa, fb, mt, mw, nt, nw⟩, s, a, b⟩ := rfl
theorem deFS_eq {l : List V} {x : FS} (h : deFS l = some x) : l = x.c := by
  unfold deFS at h
  split at h <;> cases h
  rfl
def deReply : List V → Option ReplyD
  | [.int .i64 st, .str t, .bool w, .int .i64 mod, .int .i64 len, .int .i64 have_, .int .i64 fresh, .int .i64 while_, .int .i64 err, .lst es, .str ten, .bool keep, .int .i64 a, .int .i64 b, .int .i64 age] => match unsl es with
    | some ks => some ⟨st, ⟨t, w, mod, len, have_, fresh, while_, err, ks, ten, keep⟩, a, b, age⟩
    | none => none
  | _ => none
theorem deReply_c (st : Int) (t : B) (w : Bool) (mod len have_ fresh while_ err : Int) (ks : List B) (ten : B) (keep : Bool) (a b age : Int) : deReply [.int .i64 st, .str t, .bool w, .int .i64 mod, .int .i64 len, .int .i64 have_, .int .i64 fresh, .int .i64 while_, .int .i64 err, .lst (sl ks), .str ten, .bool keep, .int .i64 a, .int .i64 b, .int .i64 age] = some ⟨st, ⟨t, w, mod, len, have_, fresh, while_, err, ks, ten, keep⟩, a, b, age⟩ := by
  simp only [deReply, unsl_sl]
theorem deReply_n (st : Int) (t : B) (w : Bool) (mod len have_ fresh while_ err : Int) (ten : B) (keep : Bool) (a b age : Int) : deReply [.int .i64 st, .str t, .bool w, .int .i64 mod, .int .i64 len, .int .i64 have_, .int .i64 fresh, .int .i64 while_, .int .i64 err, .lst [], .str ten, .bool keep, .int .i64 a, .int .i64 b, .int .i64 age] = some ⟨st, ⟨t, w, mod, len, have_, fresh, while_, err, [], ten, keep⟩, a, b, age⟩ := rfl
theorem deReply_eq {l : List V} {x : ReplyD} (h : deReply l = some x) : l = x.c := by
  unfold deReply at h
  split at h
  · split at h <;> cases h
    rename_i hu
    rw [unsl_eq hu]
  · cases h
def deFetch : List V → Option FetchD
  | [.str fo, .int .i64 fa, .int .i64 fb, .str mt, .bool mw, .str nt, .bool nw] => some ⟨fo, fa, fb, mt, mw, nt, nw⟩
  | _ => none
theorem deFetch_c (fo : B) (fa fb : Int) (mt : B) (mw : Bool) (nt : B) (nw : Bool) : deFetch [.str fo, .int .i64 fa, .int .i64 fb, .str mt, .bool mw, .str nt, .bool nw] = some ⟨fo, fa, fb, mt, mw, nt, nw⟩ := rfl
theorem deFetch_eq {l : List V} {x : FetchD} (h : deFetch l = some x) : l = x.c := by
  unfold deFetch at h
  split at h <;> cases h
  rfl
def deObj : Option HObj → Option FS
  | some (.cells l) => deFS l
  | _ => none
theorem deObj_c (l : List V) : deObj (some (.cells l)) = deFS l := rfl
theorem deObj_eq {h : Option HObj} {x : FS} (e : deObj h = some x) : h = some (.cells x.c) := by
  unfold deObj at e
  split at e
  · rw [deFS_eq e]
  · cases e

def t17 : List V → Option (Prop × V)
  | [.agg f] => match deFetch f with
    | some f => some (True, .tup [.agg (beginF f).1.c, .int .i64 (beginF f).2])
    | none => none
  | _ => none
def t18 : List V → Option (Prop × V)
  | [.nilp, .agg r] => match deReply r with
    | some r => some (True, .tup [.int .i64 0, .int .i64 11])
    | none => none
  | _ => none
def t19 : List V → Option (Prop × V)
  | [.agg x, .agg r] => match deFS x, deReply r with
    | some x, some r => some (True, .tup [.agg (replyF x r).1.c, .int .i64 (replyF x r).2.1, .int .i64 (replyF x r).2.2])
    | _, _ => none
  | _ => none
def t20 : List V → Option (Prop × V)
  | [.nilp, .int .i64 _] => some (True, .tup [.agg [.int .i64 0, .int .i64 0], .int .i64 11])
  | _ => none
def t21 : List V → Option (Prop × V)
  | [.agg x, .int .i64 n] => match deFS x with
    | some x => some (True, .tup [.agg (dataF x n).1.c, .agg [.int .i64 (dataF x n).2.1.1, .int .i64 (dataF x n).2.1.2], .int .i64 (dataF x n).2.2])
    | none => none
  | _ => none
def t22 : List V → Option (Prop × V)
  | [.nilp, .bool _] => some (True, .int .i64 11)
  | _ => none
def t23 : List V → Option (Prop × V)
  | [.agg x, .bool w] => match deFS x with
    | some x => some (True, .tup [.agg (closeF x w).1.c, .int .i64 (closeF x w).2])
    | none => none
  | _ => none
def t24 (M : Heap) : List V → Option (Prop × V)
  | [.nilp] => some (True, .tup [.agg [.int .i64 0, .int .i64 0], .bool false])
  | [.ptr o 0] => match deObj (M o) with
    | some x => some (True, .tup [.agg [.int .i64 (restF x).1.1, .int .i64 (restF x).1.2], .bool (restF x).2])
    | none => none
  | _ => none
def t25 : List V → Option (Prop × V)
  | [.agg x] => match deFS x with
    | some x => some (True, .tup [.agg [.int .i64 (restF x).1.1, .int .i64 (restF x).1.2], .bool (restF x).2])
    | none => none
  | _ => none
def tab8 : Tab := fun M id vs => match id with
  | 17 => t17 vs
  | 18 => t18 vs
  | 19 => t19 vs
  | 20 => t20 vs
  | 21 => t21 vs
  | 22 => t22 vs
  | 23 => t23 vs
  | 24 => t24 M vs
  | 25 => t25 vs
  | id => tab7 M id vs

theorem tab8_ok : TabOk Try.prog tab8 := by
  intro M id vs g r h hg
  unfold tab8 at h
  split at h
  · unfold t17 at h
    split at h <;> (try (cases h; done))
    split at h <;> (try (cases h; done))
    rename_i hf; rw [deFetch_eq hf]; cases h
    exact s17 _ _
  · unfold t18 at h
    split at h <;> (try (cases h; done))
    split at h <;> (try (cases h; done))
    rename_i hr; rw [deReply_eq hr]; cases h
    exact s18n _ _
  · unfold t19 at h
    split at h <;> (try (cases h; done))
    split at h <;> (try (cases h; done))
    rename_i hx hr; rw [deFS_eq hx, deReply_eq hr]; cases h
    exact s19 _ _ _
  · unfold t20 at h
    split at h <;> (try (cases h; done))
    cases h
    exact s20n _ _
  · unfold t21 at h
    split at h <;> (try (cases h; done))
    split at h <;> (try (cases h; done))
    rename_i hx; rw [deFS_eq hx]; cases h
    exact s21 _ _ _
  · unfold t22 at h
    split at h <;> (try (cases h; done))
    cases h
    exact s22n _ _
  · unfold t23 at h
    split at h <;> (try (cases h; done))
    split at h <;> (try (cases h; done))
    rename_i hx; rw [deFS_eq hx]; cases h
    exact s23 _ _ _
  · unfold t24 at h
    split at h <;> (try (cases h; done))
    · cases h
      exact s24n _
    · split at h <;> (try (cases h; done))
      rename_i hx; cases h
      exact s24 _ _ _ (deObj_eq hx)
  · unfold t25 at h
    split at h <;> (try (cases h; done))
    split at h <;> (try (cases h; done))
    rename_i hx; rw [deFS_eq hx]; cases h
    exact s25 _ _
  · exact tab7_ok _ _ _ _ _ h hg

def w18 (M : Heap) : List V → Option (Prop × V × Heap)
  | [.ptr o 0, .agg r] => match deObj (M o), deReply r with
    | some x, some r => some (True, .tup [.int .i64 (replyF x r).2.1, .int .i64 (replyF x r).2.2], updH M o (.cells (replyF x r).1.c))
    | _, _ => none
  | _ => none
def w20 (M : Heap) : List V → Option (Prop × V × Heap)
  | [.ptr o 0, .int .i64 n] => match deObj (M o) with
    | some x => some (True, .tup [.agg [.int .i64 (dataF x n).2.1.1, .int .i64 (dataF x n).2.1.2], .int .i64 (dataF x n).2.2], updH M o (.cells (dataF x n).1.c))
    | none => none
  | _ => none
def w22 (M : Heap) : List V → Option (Prop × V × Heap)
  | [.ptr o 0, .bool w] => match deObj (M o) with
    | some x => some (True, .int .i64 (closeF x w).2, updH M o (.cells (closeF x w).1.c))
    | none => none
  | _ => none
def wtab8 : WTab := fun M id vs => match id with
  | 18 => w18 M vs
  | 20 => w20 M vs
  | 22 => w22 M vs
  | _ => none

theorem wtab8_ok : WTabOk Try.prog wtab8 := by
  intro M id vs g r M' h hg
  unfold wtab8 at h
  split at h
  · unfold w18 at h
    split at h <;> (try (cases h; done))
    split at h <;> (try (cases h; done))
    rename_i hx hr; rw [deReply_eq hr]; cases h
    exact s18 _ _ _ _ (deObj_eq hx)
  · unfold w20 at h
    split at h <;> (try (cases h; done))
    split at h <;> (try (cases h; done))
    rename_i hx; cases h
    exact s20 _ _ _ _ (deObj_eq hx)
  · unfold w22 at h
    split at h <;> (try (cases h; done))
    split at h <;> (try (cases h; done))
    rename_i hx; cases h
    exact s22 _ _ _ _ (deObj_eq hx)
  · cases h

/-- What statements take. -/
def smallR (r : ReplyD) : Bool := decide (r.m.t.length ≤ 200) && (decide (r.m.keys.length ≤ 40) && (decide (r.m.ten.length ≤ 100) && r.m.keys.all fun k => decide (k.length ≤ 300)))
theorem smallR_key {r : ReplyD} {j : Nat} (h : j < r.m.keys.length) (hn : 300 < (r.m.keys.getD j []).length) : smallR r = false := by
  unfold smallR
  simp only [Bool.and_eq_false_iff]
  right; right; right
  rw [List.all_eq_false]
  refine ⟨r.m.keys.getD j [], ?_, by simpa using hn⟩
  rw [List.getD_eq_getElem?_getD, List.getElem?_eq_getElem h]
  simp

theorem allTake {α : Type} {p : α → Bool} {s : List α} {d : α} {k : Nat} (h : (s.take k).all p = true) (hk : k < s.length) (hp : p (s.getD k d) = true) : (s.take (k + 1)).all p = true := by
  rw [List.take_succ_eq_append_getElem hk, List.all_append, h]
  simp [List.getD_eq_getElem?_getD, List.getElem?_eq_getElem hk] at hp
  simp [hp]
theorem allDone {α : Type} {p : α → Bool} {s : List α} {k : Nat} (h : (s.take k).all p = true) (hk : k ≤ s.length) (hb : decide ((k : Int) < s.length) = false) : s.all p = true := by
  have : k = s.length := by simp at hb; omega
  subst this
  simpa using h

theorem s11 (r : ReplyD) (M : Heap) : Pure Try.prog 11 [.agg r.c] M (.bool (smallR r)) := by
  refine Spec.strip' (fun _ => false) ok11 (by simp) (fun hlen => ?_)
  have hlen : r.m.keys.length ≤ 9223372036854775807 := by
    have := hlen.1.2.2.2.2.2.2.2.2.2.1.1
    simpa [maxLen, sl_len] using this
  obtain ⟨st, ⟨t, w, mod, len, have_, fresh, while_, err, keys, ten, keep⟩, a, b, age⟩ := r
  simp only [ReplyD.c] at hlen ⊢
  unfold c11
  refine wps_seq_k fun K1 hK1 => wps_regT tab8 tab8_ok ?_; simp only [go_sem, Nat.reduceLeDiff, Nat.reducePow, Nat.reduceSub, Nat.reduceLT, Nat.reduceEqDiff, Nat.reduceAdd, Nat.reduceMul, ↓reduceIte, reduceCtorEq, tab8, tab7, tab6, tab5, tab4, tab3, tab2, tab1, tab0, unsl_sl]; (first | (refine hK1 _ ?_; clear hK1 K1) | (refine ⟨?_, hK1 _ ?_⟩ <;> clear hK1 K1; first | (· (simp; done)) | (· (simp +contextual; done)) | (· (simp +contextual; omega)) | (· grind) | skip))
  refine wps_seq_k fun K2 hK2 => ?_
  refine wps_seq_k fun K1 hK1 => wps_regT tab8 tab8_ok ?_; simp only [go_sem, Nat.reduceLeDiff, Nat.reducePow, Nat.reduceSub, Nat.reduceLT, Nat.reduceEqDiff, Nat.reduceAdd, Nat.reduceMul, ↓reduceIte, reduceCtorEq, tab8, tab7, tab6, tab5, tab4, tab3, tab2, tab1, tab0, unsl_sl, fi25_0, fi30_0, fi30_7, fi30_8, fi32_1, ti28, ti9, und28, und9, sl_len]; (first | (refine hK1 _ ?_; clear hK1 K1) | (refine ⟨?_, hK1 _ ?_⟩ <;> clear hK1 K1; first | (· (simp; done)) | (· (simp +contextual; done)) | (· (simp +contextual; omega)) | (· grind) | skip))
  refine wps_cond (by simp only [go_sem, Nat.reduceLeDiff, Nat.reducePow, Nat.reduceSub, Nat.reduceLT, Nat.reduceEqDiff, Nat.reduceAdd, Nat.reduceMul, ↓reduceIte, reduceCtorEq, tab8, tab7, tab6, tab5, tab4, tab3, tab2, tab1, tab0, unsl_sl]; rfl) (by simp) (fun hb => ?_) (fun hb => ?_)
  · refine wps_seq_k fun K1 hK1 => wps_regT tab8 tab8_ok ?_; simp only [go_sem, Nat.reduceLeDiff, Nat.reducePow, Nat.reduceSub, Nat.reduceLT, Nat.reduceEqDiff, Nat.reduceAdd, Nat.reduceMul, ↓reduceIte, reduceCtorEq, tab8, tab7, tab6, tab5, tab4, tab3, tab2, tab1, tab0, unsl_sl]; (first | (refine hK1 _ ?_; clear hK1 K1) | (refine ⟨?_, hK1 _ ?_⟩ <;> clear hK1 K1; first | (· (simp; done)) | (· (simp +contextual; done)) | (· (simp +contextual; omega)) | (· grind) | skip))
    simp only [wps, endQ, resV, resVs, resV1, go_sem, Nat.reduceLeDiff, Nat.reducePow, Nat.reduceSub, Nat.reduceLT, Nat.reduceEqDiff, Nat.reduceAdd, Nat.reduceMul, ↓reduceIte, reduceCtorEq, tab8, tab7, tab6, tab5, tab4, tab3, tab2, tab1, tab0, unsl_sl]
    simp only [true_and, and_true, V.bool.injEq]
    symm
    unfold smallR
    simp [sl_len] at hb ⊢
    intro h1 h2 h3
    omega
  · refine hK2 _ ?_; clear hK2 K2
    have hb1 := hb; clear hb
    refine wps_seq_k fun K3 hK3 => ?_
    refine wps_seq_k fun K1 hK1 => wps_regT tab8 tab8_ok ?_; simp only [go_sem, Nat.reduceLeDiff, Nat.reducePow, Nat.reduceSub, Nat.reduceLT, Nat.reduceEqDiff, Nat.reduceAdd, Nat.reduceMul, ↓reduceIte, reduceCtorEq, tab8, tab7, tab6, tab5, tab4, tab3, tab2, tab1, tab0, unsl_sl, fi30_7, fi32_1, ti28, und28]; (first | (refine hK1 _ ?_; clear hK1 K1) | (refine ⟨?_, hK1 _ ?_⟩ <;> clear hK1 K1; first | (· (simp; done)) | (· (simp +contextual; done)) | (· (simp +contextual; omega)) | (· grind) | skip))
    refine wps_block ?_
    refine wps_count 29 keys.length (fun k st => st.M = M ∧ st.fr 27 = .lst (sl keys) ∧ st.fr 28 = .int .i64 keys.length ∧ (keys.take k).all (fun x => decide (x.length ≤ 300)) = true) ?_ ?_
    · exact ⟨0, by simp, by simp only [go_sem, Nat.reduceLeDiff, Nat.reducePow, Nat.reduceSub, Nat.reduceLT, Nat.reduceEqDiff, Nat.reduceAdd, Nat.reduceMul, ↓reduceIte, reduceCtorEq, tab8, tab7, tab6, tab5, tab4, tab3, tab2, tab1, tab0, unsl_sl]; rfl, by simp only [go_sem, Nat.reduceLeDiff, Nat.reducePow, Nat.reduceSub, Nat.reduceLT, Nat.reduceEqDiff, Nat.reduceAdd, Nat.reduceMul, ↓reduceIte, reduceCtorEq, tab8, tab7, tab6, tab5, tab4, tab3, tab2, tab1, tab0, unsl_sl], by simp only [go_sem, Nat.reduceLeDiff, Nat.reducePow, Nat.reduceSub, Nat.reduceLT, Nat.reduceEqDiff, Nat.reduceAdd, Nat.reduceMul, ↓reduceIte, reduceCtorEq, tab8, tab7, tab6, tab5, tab4, tab3, tab2, tab1, tab0, unsl_sl], by simp only [go_sem, Nat.reduceLeDiff, Nat.reducePow, Nat.reduceSub, Nat.reduceLT, Nat.reduceEqDiff, Nat.reduceAdd, Nat.reduceMul, ↓reduceIte, reduceCtorEq, tab8, tab7, tab6, tab5, tab4, tab3, tab2, tab1, tab0, unsl_sl, sl_len], by simp⟩
    · rintro k fr M' gen hk hi ⟨hM, h27, h28, hall⟩
      simp only at hM h27 h28; subst hM
      refine wps_seq_k fun K1 hK1 => wps_regT tab8 tab8_ok ?_; simp only [go_sem, Nat.reduceLeDiff, Nat.reducePow, Nat.reduceSub, Nat.reduceLT, Nat.reduceEqDiff, Nat.reduceAdd, Nat.reduceMul, ↓reduceIte, reduceCtorEq, tab8, tab7, tab6, tab5, tab4, tab3, tab2, tab1, tab0, unsl_sl, hi, h28]; (first | (refine hK1 _ ?_; clear hK1 K1) | (refine ⟨?_, hK1 _ ?_⟩ <;> clear hK1 K1; first | (· (simp; done)) | (· (simp +contextual; done)) | (· (simp +contextual; omega)) | (· grind) | skip))
      refine wps_seq_k fun K4 hK4 => ?_
      refine wps_cond (by simp only [go_sem, Nat.reduceLeDiff, Nat.reducePow, Nat.reduceSub, Nat.reduceLT, Nat.reduceEqDiff, Nat.reduceAdd, Nat.reduceMul, ↓reduceIte, reduceCtorEq, tab8, tab7, tab6, tab5, tab4, tab3, tab2, tab1, tab0, unsl_sl]; rfl) (by simp) (fun hb => ?_) (fun hb => ?_)
      · refine hK4 _ ?_; clear hK4 K4
        simp only [decide_eq_true_eq] at hb
        have hk' : k < keys.length := by omega
        refine wps_seq_k fun K5 hK5 => ?_
        refine wps_block ?_
        refine wps_seq_k fun K1 hK1 => wps_regT tab8 tab8_ok ?_; simp only [go_sem, Nat.reduceLeDiff, Nat.reducePow, Nat.reduceSub, Nat.reduceLT, Nat.reduceEqDiff, Nat.reduceAdd, Nat.reduceMul, ↓reduceIte, reduceCtorEq, tab8, tab7, tab6, tab5, tab4, tab3, tab2, tab1, tab0, unsl_sl, ti9, und28, hi, h27, sl_len, sl_get hk']; (first | (refine hK1 _ ?_; clear hK1 K1) | (refine ⟨?_, hK1 _ ?_⟩ <;> clear hK1 K1; first | (· (simp; done)) | (· (simp +contextual; done)) | (· (simp +contextual; omega)) | (· grind) | skip))
        refine wps_seq_k fun K1 hK1 => wps_regT tab8 tab8_ok ?_; simp only [go_sem, Nat.reduceLeDiff, Nat.reducePow, Nat.reduceSub, Nat.reduceLT, Nat.reduceEqDiff, Nat.reduceAdd, Nat.reduceMul, ↓reduceIte, reduceCtorEq, tab8, tab7, tab6, tab5, tab4, tab3, tab2, tab1, tab0, unsl_sl, und9]; (first | (refine hK1 _ ?_; clear hK1 K1) | (refine ⟨?_, hK1 _ ?_⟩ <;> clear hK1 K1; first | (· (simp; done)) | (· (simp +contextual; done)) | (· (simp +contextual; omega)) | (· grind) | skip))
        refine wps_cond (by simp only [go_sem, Nat.reduceLeDiff, Nat.reducePow, Nat.reduceSub, Nat.reduceLT, Nat.reduceEqDiff, Nat.reduceAdd, Nat.reduceMul, ↓reduceIte, reduceCtorEq, tab8, tab7, tab6, tab5, tab4, tab3, tab2, tab1, tab0, unsl_sl]; rfl) (by simp) (fun hb => ?_) (fun hb => ?_)
        · refine wps_seq_k fun K1 hK1 => wps_regT tab8 tab8_ok ?_; simp only [go_sem, Nat.reduceLeDiff, Nat.reducePow, Nat.reduceSub, Nat.reduceLT, Nat.reduceEqDiff, Nat.reduceAdd, Nat.reduceMul, ↓reduceIte, reduceCtorEq, tab8, tab7, tab6, tab5, tab4, tab3, tab2, tab1, tab0, unsl_sl]; (first | (refine hK1 _ ?_; clear hK1 K1) | (refine ⟨?_, hK1 _ ?_⟩ <;> clear hK1 K1; first | (· (simp; done)) | (· (simp +contextual; done)) | (· (simp +contextual; omega)) | (· grind) | skip))
          simp only [wps, endQ, resV, resVs, resV1, go_sem, Nat.reduceLeDiff, Nat.reducePow, Nat.reduceSub, Nat.reduceLT, Nat.reduceEqDiff, Nat.reduceAdd, Nat.reduceMul, ↓reduceIte, reduceCtorEq, tab8, tab7, tab6, tab5, tab4, tab3, tab2, tab1, tab0, unsl_sl]
          simp only [true_and, and_true, V.bool.injEq]
          refine (smallR_key (r := ⟨_, ⟨_, _, _, _, _, _, _, _, keys, _, _⟩, _, _, _⟩) hk' ?_).symm
          simp at hb ⊢
          omega
        · refine hK5 _ ?_; clear hK5 K5
          refine wps_regT tab8 tab8_ok ?_; simp only [go_sem, Nat.reduceLeDiff, Nat.reducePow, Nat.reduceSub, Nat.reduceLT, Nat.reduceEqDiff, Nat.reduceAdd, Nat.reduceMul, ↓reduceIte, reduceCtorEq, tab8, tab7, tab6, tab5, tab4, tab3, tab2, tab1, tab0, unsl_sl, hi]
          refine ⟨hk', ?_, h27, h28, ?_⟩
          · rw [IntWalk.i64_in _ (by omega)]
          · refine allTake (d := []) hall hk' ?_
            simp at hb ⊢
            omega
      · refine hK3 _ ?_; clear hK4 K4 hK3 K3
        refine wps_seq_k fun K1 hK1 => wps_regT tab8 tab8_ok ?_; simp only [go_sem, Nat.reduceLeDiff, Nat.reducePow, Nat.reduceSub, Nat.reduceLT, Nat.reduceEqDiff, Nat.reduceAdd, Nat.reduceMul, ↓reduceIte, reduceCtorEq, tab8, tab7, tab6, tab5, tab4, tab3, tab2, tab1, tab0, unsl_sl]; (first | (refine hK1 _ ?_; clear hK1 K1) | (refine ⟨?_, hK1 _ ?_⟩ <;> clear hK1 K1; first | (· (simp; done)) | (· (simp +contextual; done)) | (· (simp +contextual; omega)) | (· grind) | skip))
        simp only [wps, endQ, resV, resVs, resV1, go_sem, Nat.reduceLeDiff, Nat.reducePow, Nat.reduceSub, Nat.reduceLT, Nat.reduceEqDiff, Nat.reduceAdd, Nat.reduceMul, ↓reduceIte, reduceCtorEq, tab8, tab7, tab6, tab5, tab4, tab3, tab2, tab1, tab0, unsl_sl]
        have hall := allDone hall hk hb
        simp only [true_and, and_true, V.bool.injEq, smallR, hall]
        simp [sl_len] at hb1 ⊢
        omega

def metaW : MetaD := ⟨[118], false, -1, 12, 12, 0, 0, 0, [], [], false⟩
theorem s27 (M : Heap) : Pure Try.prog 27 [.int .i64 12] M (.agg [.str [118], .bool false, .int .i64 (-1), .int .i64 12, .int .i64 12, .int .i64 0, .int .i64 0, .int .i64 0, .lst [], .str [], .bool false]) := by
  refine Spec.strip (fun _ => false) ok27 (by simp) ?_
  unfold c27
  refine wps_seq_k fun K1 hK1 => wps_regT tab8 tab8_ok ?_; simp only [go_sem, Nat.reduceLeDiff, Nat.reducePow, Nat.reduceSub, Nat.reduceLT, Nat.reduceEqDiff, Nat.reduceAdd, Nat.reduceMul, ↓reduceIte, reduceCtorEq, tab8, tab7, tab6, tab5, tab4, tab3, tab2, tab1, tab0, unsl_sl, zero30]; (first | (refine hK1 _ ?_; clear hK1 K1) | (refine ⟨?_, hK1 _ ?_⟩ <;> clear hK1 K1; first | (· (simp; done)) | (· (simp +contextual; done)) | (· (simp +contextual; omega)) | (· grind) | skip))
  refine wps_seq_k fun K1 hK1 => wps_regT tab8 tab8_ok ?_; simp only [go_sem, Nat.reduceLeDiff, Nat.reducePow, Nat.reduceSub, Nat.reduceLT, Nat.reduceEqDiff, Nat.reduceAdd, Nat.reduceMul, ↓reduceIte, reduceCtorEq, tab8, tab7, tab6, tab5, tab4, tab3, tab2, tab1, tab0, unsl_sl, bs25, bs30, fi25_0, fi30_0, fi30_1, fi30_2, fi30_3, ti30, zero25, zero30]; (first | (refine hK1 _ ?_; clear hK1 K1) | (refine ⟨?_, hK1 _ ?_⟩ <;> clear hK1 K1; first | (· (simp; done)) | (· (simp +contextual; done)) | (· (simp +contextual; omega)) | (· grind) | skip))
  simp only [wps, endQ, resV, resVs, resV1, go_sem, Nat.reduceLeDiff, Nat.reducePow, Nat.reduceSub, Nat.reduceLT, Nat.reduceEqDiff, Nat.reduceAdd, Nat.reduceMul, ↓reduceIte, reduceCtorEq, tab8, tab7, tab6, tab5, tab4, tab3, tab2, tab1, tab0, unsl_sl, ti30]
end Go.Eng.Try
