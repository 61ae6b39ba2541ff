/- The engine, part 6: soundness of 'evalQ'. -/
import Derived.Test.YtndjoblgphalhaaE5
namespace Go.Eng
set_option linter.unusedSimpArgs false
set_option linter.unusedVariables false

section
variable {P : Program} {E : Env} {w : World} {M : Heap} {fr : Nat → V} {a : Act}

theorem mapM_places (fs : Array Field) (h : ∀ fd ∈ fs.toList, (ti P fd.type).isSome = true) : (fs.mapM (fun f => do pure (f.offset, ← sizeOf f.type) : Field → Sem (Nat × Nat))).run P w =
    .ok (fs.map fun f => (f.offset, ((ti P f.type).map (·.size)).getD 0)) w := by
  rw [Array.mapM_eq_mapM_toList]
  have key : ∀ l : List Field, (∀ fd ∈ l, (ti P fd.type).isSome = true) → (l.mapM (fun f => do pure (f.offset, ← sizeOf f.type) : Field → Sem (Nat × Nat))).run P w = .ok (l.map fun f => (f.offset, ((ti P f.type).map (·.size)).getD 0)) w := by
    intro l
    induction l with
    | nil => intro _; simp
    | cons f l ih =>
      intro hl
      have hf := hl f (by simp)
      obtain ⟨T, hT⟩ := Option.isSome_iff_exists.1 hf
      rw [List.mapM_cons]
      simp only [Sem.run_bind, Sem.run_pure, run_sizeOf hT, Result.andThen_ok, ih (fun fd hfd => hl fd (by simp [hfd]))]
      simp [hT]
  rw [Sem.run_map, key fs.toList h]
  simp only [Result.andThen_ok]
  congr 1
  apply Array.ext'
  simp

theorem buildV_sound {t : TypeId} {ps : Array (Nat × Operand)} {c : Prop} {v : V} (h : buildV P t fr ps.toList = some (c, v)) (hc : c) (hf : FR E w fr a.tmps) :
    ∃ x, (Instr.build t (ps.map fun (i, x) => (i, a.eval x))).run P w = .ok x w ∧ R E w v x := by
  unfold buildV at h
  split at h
  case h_2 => simp at h
  rename_i fs z hu hz
  split at h
  case isFalse => simp at h
  rename_i hall
  split at h <;> simp at h
  rename_i g cs hfill
  obtain ⟨e, rfl⟩ := h
  obtain ⟨zx, hz1, hz2⟩ := zeroV_sound (P := P) (E := E) (w := w) hz
  simp only [R] at hz2
  obtain ⟨zs, rfl, hzl⟩ := hz2
  have hpl := mapM_places (P := P) (w := w) fs (fun fd hfd => List.all_eq_true.1 hall fd hfd)
  obtain ⟨out, ho, hr⟩ := fillV_sound (P := P) hu hf (fs.map fun f => (f.offset, ((ti P f.type).map (·.size)).getD 0)) (fun i fd T h1 h2 => by simp [h1, h2]) ps.toList z zs g cs hfill (by rw [e]; exact hc) hzl
  refine ⟨.agg out, ?_, by simp only [R]; exact ⟨out, rfl, hr⟩⟩
  have hmap : (ps.map fun (p : Nat × Operand) => (p.1, a.eval p.2)).toList = ps.toList.map fun p => (p.1, a.eval p.2) := by simp
  simp only [Instr.build, Sem.run_bind, hz1, Result.andThen_ok, run_underlying hu, hpl]
  simp only [Value.cells]
  have hmap' : (ps.map fun x => match x with | (i, x) => (i, a.eval x)).toList = ps.toList.map fun p => (p.1, a.eval p.2) := by simp
  rw [hmap', ho]
  simp

theorem unV_sound {op : UnOp} {v u : V} {x : Value} (h : unV op v = some u) (hr : RO E w v x) : ∃ y, (Op.unary op x).run P w = .ok y w ∧ R E w u y := by
  unfold unV at h
  split at h
  · simp only [RO, R] at hr; subst hr
    cases op <;> simp at h
    subst h; exact ⟨_, by simp [Op.unary]; rfl, by simp [R]⟩
  · simp only [RO, R] at hr; subst hr
    cases op <;> simp at h
    · subst h; exact ⟨_, by simp [Op.unary, Op.intArith]; rfl, by simp [R]⟩
    · subst h; exact ⟨_, by simp [Op.unary, Op.intBits]; rfl, by simp [R, bitsV]⟩
  · simp at h

theorem convV_sound {s d : TypeId} {v u : V} {x : Value} (h : convV (P.underlying s) (P.underlying d) v = some u) (hr : RO E w v x) : ∃ y, (convert s d x).run P w = .ok y w ∧ R E w u y := by
  unfold convV at h
  split at h
  · rename_i ds k k' n hs hd
    simp at h; subst h
    simp only [RO, R] at hr; subst hr
    refine ⟨.int k (k.wrap n), ?_, by simp [R]⟩
    simp [convert, run_underlying hs, run_underlying hd, Conv.intToInt]
  · rename_i ds s' hs hd
    simp at h; subst h
    simp only [RO, R] at hr; obtain ⟨rfl, hl⟩ := hr
    refine ⟨.string ⟨⟨s'⟩⟩, ?_, by simp [R, hl]⟩
    simp [convert, run_underlying hs, run_underlying hd]
  · simp at h

theorem RKV.length : ∀ {kvs : List (V × V)} {es : List MapEntry}, RKV E w kvs es → kvs.length = es.length
  | [], es, h => by simp [RKV] at h; simp [h]
  | (k, v) :: kvs, es, h => by
    simp only [RKV] at h
    obtain ⟨e, r, rfl, _, _, h3⟩ := h
    simp [RKV.length h3]

theorem lenMap_sound {v : V} {x : Value} {t ty : TypeId} {k e : TypeId} {kvs : List (V × V)} (hd : P.underlying t = some (.map k e)) (hkv : mapKVs M v = some kvs) (hm : RH E w M) (hr : RO E w v x) :
    (Builtin.len_ #[t] ty #[x]).run P w = .ok (.int .i64 kvs.length) w := by
  unfold mapKVs at hkv
  split at hkv
  · simp at hkv; subst hkv; simp only [RO, R] at hr; subst hr
    simp [Builtin.len_, run_underlying hd, goInt]
  · rename_i o
    split at hkv <;> simp at hkv
    rename_i kvs' ho
    subst hkv
    simp only [RO, R] at hr
    obtain ⟨b, hb, rfl⟩ := hr
    obtain ⟨b', hb', es, clock, hh, hre⟩ := hm o _ ho
    rw [hb] at hb'; cases hb'
    have hlen := hre.length
    simp [Builtin.len_, run_underlying hd, goInt, getObj, Sem.run, hh, hlen]
  · simp at hkv

theorem mxV_sound {isMax : Bool} {u v r : V} {c : Prop} {x y : Value} (h : mxV isMax u v = some (c, r)) (hc : c) (hx : RO E w u x) (hy : RO E w v y) (ts : Array TypeId) (ty : TypeId) :
    ∃ z, (if isMax then Builtin.max_ ts ty #[x, y] else Builtin.min_ ts ty #[x, y]).run P w = .ok z w ∧ R E w r z := by
  unfold mxV at h
  split at h <;> simp at h
  rename_i k i k' j
  obtain ⟨e, rfl⟩ := h
  simp only [RO, R] at hx hy
  subst hx; subst hy
  cases isMax
  · exact ⟨_, by simp [Builtin.min_, Builtin.min2]; rfl, by simp [R]⟩
  · exact ⟨_, by simp [Builtin.max_, Builtin.max2]; rfl, by simp [R]⟩

/-- WHAT 'evalQ' SAYS, THE MODEL DOES, and the world stays. -/
theorem evalQ_sound {o : Oper} {c : Prop} {v : V} (h : evalQ P M fr o.op = some (c, v)) (hc : c) (hf : FR E w fr a.tmps) (hm : RH E w M) :
    ∃ x, (execOp a.eval o).run P w = .ok (.value x) w ∧ RO E w v x := by
  obtain ⟨dst, op, type, pos, after, guard⟩ := o
  unfold evalQ at h
  split at h
  all_goals subst_vars
  · exact ⟨_, by simp [execOp], opv_sound h hc hf⟩
  · exact ⟨_, by simp [execOp], opv_sound h hc hf⟩
  · -- pick
    rename_i c' x y
    split at h <;> try (simp at h; done)
    rename_i g b hb
    obtain ⟨hg, hr⟩ := pickV_sound (P := P) (E := E) (w := w) (x := a.eval x) (y := a.eval y) h hc (fun ga u e k => opv_sound e k hf) (fun gb u e k => opv_sound e k hf)
    have hb' := opv_sound hb hg hf
    simp only [RO, R] at hb'
    refine ⟨if b then a.eval x else a.eval y, ?_, hr⟩
    simp [execOp, hb', asBool]
  · -- build
    rename_i t ps
    obtain ⟨x, hx, hr⟩ := buildV_sound (P := P) (w := w) h hc hf
    exact ⟨x, by simp only [execOp, Sem.run_bind, hx, Result.andThen_ok, Sem.run_pure], .of_R hr⟩
  · -- load
    rename_i t ad
    split at h <;> try (simp at h; done)
    rename_i T g v' ht ho
    split at h <;> simp at h
    rename_i g' u hl
    obtain ⟨e, rfl⟩ := h
    obtain ⟨k1, k2⟩ := e.2 hc
    obtain ⟨y, hy, hr⟩ := loadA_sound ht hl k2 hf hm (opv_sound ho k1 hf)
    exact ⟨y, by simp only [execOp, Sem.run_bind, hy, Result.andThen_ok, Sem.run_pure], .of_R hr⟩
  · -- binOp
    rename_i op t x y ty
    split at h <;> try (simp at h; done)
    rename_i g u g' u' h1 h2
    split at h <;> simp at h
    rename_i g'' v' h3
    obtain ⟨e, rfl⟩ := h
    obtain ⟨k1, k2, k3⟩ := e.2 hc
    obtain ⟨z, hz, hr⟩ := opV_sound (P := P) (ox := x) (oy := y) h3 k3 (opv_sound h1 k1 hf) (opv_sound h2 k2 hf)
    exact ⟨z, by simp only [execOp]; rw [Sem.run_bind, hz]; simp, .of_R hr⟩
  · -- unOp
    rename_i op t x
    split at h <;> try (simp at h; done)
    rename_i g u h1
    split at h <;> simp at h
    rename_i v' h3
    obtain ⟨e, rfl⟩ := h
    obtain ⟨z, hz, hr⟩ := unV_sound (P := P) h3 (opv_sound h1 (e.2 hc) hf)
    exact ⟨z, by simp only [execOp, Sem.run_bind, hz, Result.andThen_ok, Sem.run_pure], .of_R hr⟩
  · -- convert
    rename_i s d x
    split at h <;> try (simp at h; done)
    rename_i g u h1
    split at h <;> simp at h
    rename_i v' h3
    obtain ⟨e, rfl⟩ := h
    obtain ⟨z, hz, hr⟩ := convV_sound (P := P) h3 (opv_sound h1 (e.2 hc) hf)
    exact ⟨z, by simp only [execOp, Sem.run_bind, hz, Result.andThen_ok, Sem.run_pure], .of_R hr⟩
  · -- fieldAddr
    rename_i t x f
    split at h <;> try (simp at h; done)
    rename_i off T g u h1 h2
    split at h <;> simp at h
    rename_i v' h3
    obtain ⟨e, rfl⟩ := h
    obtain ⟨k1, k2⟩ := e.2 hc
    obtain ⟨fs, fd, hu, hfd, hT, rfl⟩ := fieldInfo_sound h1
    obtain ⟨b, off', hx, hr⟩ := addrAdd_sound h3 (opv_sound h2 k1 hf)
    refine ⟨_, ?_, hr⟩
    simp [execOp, Instr.fieldAt, run_underlying hu, hfd, hx, Instr.sureAddr, fieldPlace, run_sizeOf hT, k2, addr_add]
  · -- field
    rename_i t x f
    split at h <;> try (simp at h; done)
    rename_i off T g cs h1 h2
    split at h <;> simp at h
    rename_i v' h3
    obtain ⟨e, rfl⟩ := h
    obtain ⟨fs, fd, hu, hfd, hT, rfl⟩ := fieldInfo_sound h1
    have hx := opv_sound h2 (e.2 hc) hf
    simp only [RO, R] at hx
    obtain ⟨xs, hx, hl⟩ := hx
    obtain ⟨y, hy, hr⟩ := part_sound hT h3 hl
    exact ⟨y, by simp [execOp, Instr.field, run_underlying hu, hfd, hx, asAgg, hy], .of_R hr⟩
  · -- indexAddr
    rename_i t x i
    split at h <;> try (simp at h; done)
    · rename_i e g es g' k n hu h1 h2
      split at h <;> simp at h
      rename_i T hT
      obtain ⟨e', rfl⟩ := h
      obtain ⟨k1, k2, k3, k4, k5⟩ := e'.2 hc
      have hx := opv_sound h1 k1 hf
      have hi := opv_sound h2 k2 hf
      simp only [RO, R] at hx hi
      obtain ⟨ad, cap, hx, hcap, hmax, hmem⟩ := hx
      have hlt : n.toNat < es.length := by omega
      rcases hmem with rfl | ⟨b, off, sz, rfl, hb, hn, hre⟩
      · simp at hlt
      · have hget : es[n.toNat]? = some (es.getD n.toNat []) := by simp [List.getD, List.getElem?_eq_getElem hlt]
        obtain ⟨g1, g2⟩ := hre.get hget
        simp only [List.getD] at k5 g1
        have hsz : sz = T.size := by rw [← g1]; simpa using k5
        subst hsz
        refine ⟨.pointer (some ⟨b, off + n.toNat * T.size, none⟩), ?_, ?_⟩
        · simp [execOp, Instr.indexAt, hx, hi, asIntOf, run_underlying hu, k3, k4, run_sizeOf hT, addr_add]
        · simp only [RO, R]
          exact ⟨b, off + n.toNat * T.size, rfl, hb, hn, by simpa [List.getD] using g2⟩
    · rename_i len e g u g' k n hu h1 h2
      split at h <;> try (simp at h; done)
      rename_i T hT
      split at h <;> simp at h
      rename_i v' h3
      obtain ⟨e', rfl⟩ := h
      obtain ⟨k1, k2, k3, k4⟩ := e'.2 hc
      have hi := opv_sound h2 k2 hf
      simp only [RO, R] at hi
      obtain ⟨b, off, hx, hr⟩ := addrAdd_sound h3 (opv_sound h1 k1 hf)
      refine ⟨_, ?_, hr⟩
      simp [execOp, Instr.indexAt, hx, hi, asIntOf, run_underlying hu, Instr.sureAddr, k3, k4, run_sizeOf hT, addr_add]
  · -- index
    rename_i t x i
    split at h <;> try (simp at h; done)
    rename_i g s g' k n hu h1 h2
    simp at h
    obtain ⟨e', rfl⟩ := h
    obtain ⟨k1, k2, k3, k4⟩ := e'.2 hc
    have hx := opv_sound h1 k1 hf
    have hi := opv_sound h2 k2 hf
    simp only [RO, R] at hx hi
    obtain ⟨hx, hl⟩ := hx
    have hlt : n.toNat < s.length := by omega
    refine ⟨.int .u8 (s[n.toNat]'hlt).toNat, ?_, by simp [RO, R, List.getD, List.getElem?_eq_getElem hlt]⟩
    have hb : (⟨⟨s⟩⟩ : ByteArray)[n.toNat]? = some (s[n.toNat]'hlt) := by
      rw [getElem?_pos _ _ (by simpa [ByteArray.size] using hlt)]
      rfl
    simp [execOp, Instr.index, hx, hi, asIntOf, run_underlying hu, k3, hb]
  · -- slice
    rename_i t x lo hi
    split at h <;> try (simp at h; done)
    rename_i g u g1 l g2 hh h1 h2 h3
    split at h <;> simp at h
    rename_i g3 v' h4
    obtain ⟨e', rfl⟩ := h
    obtain ⟨k1, k2, k3, k4⟩ := e'.2 hc
    obtain ⟨b1, b2⟩ := boundV_sound h2 k2 hf
    obtain ⟨b3, b4⟩ := boundV_sound h3 k3 hf
    obtain ⟨y, hy, hr⟩ := sliceV_sound (P := P) h4 k4 (opv_sound h1 k1 hf) b1 b2 b3 b4
    exact ⟨y, by simp only [execOp, Sem.run_bind, Option.map_none]; rw [hy]; simp, .of_R hr⟩
  · -- lookup
    rename_i t m k ok
    split at h <;> try (simp at h; done)
    rename_i g mv g' kv h1 h2
    split at h <;> simp at h
    rename_i v' h3
    obtain ⟨e', rfl⟩ := h
    obtain ⟨k1, k2⟩ := e'.2 hc
    obtain ⟨y, hy, hr⟩ := lookupV_sound h3 hm (opv_sound h1 k1 hf) (opv_sound h2 k2 hf)
    exact ⟨y, by simp only [execOp, Sem.run_bind, hy, Result.andThen_ok, Sem.run_pure], .of_R hr⟩
  · -- extract
    rename_i x i
    split at h <;> try (simp at h; done)
    rename_i g vs h1
    split at h <;> simp at h
    rename_i v' h3
    obtain ⟨e', rfl⟩ := h
    have hx := opv_sound h1 (e'.2 hc) hf
    simp only [RO, R] at hx
    obtain ⟨xs, hx, hl⟩ := hx
    obtain ⟨y, hy, hr⟩ := hl.get h3
    have hy' : xs[i]? = some y := by simpa using hy
    exact ⟨y, by simp [execOp, Instr.extract, hx, hy'], .of_R hr⟩
  · -- makeFunc
    rename_i f first cap
    split at h <;> try (simp at h; done)
    rename_i g vs g' us h1 h2
    simp at h
    obtain ⟨e', rfl⟩ := h
    obtain ⟨k1, k2⟩ := e'.2 hc
    refine ⟨.func f (first.map a.eval) (cap.map a.eval), by simp [execOp, Instr.makeFunc], ?_⟩
    simp only [RO, R]
    exact ⟨_, _, rfl, by simpa using opvs_sound hf h1 k1, by simpa using opvs_sound hf h2 k2⟩
  · -- makeInterface
    rename_i t x
    split at h <;> try (simp at h; done)
    rename_i d g u hnot hu h1
    simp at h
    obtain ⟨e', rfl⟩ := h
    have hx := (opv_sound h1 (e'.2 hc).1 hf).of_tag (e'.2 hc).2
    refine ⟨.iface t (a.eval x), ?_, by simp only [RO, R]; exact ⟨_, rfl, hx⟩⟩
    simp only [execOp, Instr.makeInterface, Sem.run_bind, run_underlying hu, Result.andThen_ok]
    cases d <;> first | (simp; done) | (exact absurd hu (hnot _))
  · -- nilCheck
    rename_i x
    split at h <;> try (simp at h; done)
    rename_i g u h1
    split at h <;> simp at h
    rename_i hfn
    obtain ⟨e', rfl⟩ := h
    have hx := opv_sound h1 (e'.2 hc) hf
    refine ⟨a.eval x, ?_, hx⟩
    unfold isFuncFn at hfn
    split at hfn <;> try (simp at hfn; done)
    all_goals
      simp only [RO, R] at hx
      first
        | (obtain ⟨_, _, hx, _⟩ := hx; simp [execOp, hx]; done)
        | (obtain ⟨_, _, hx⟩ := hx; simp [execOp, hx]; done)
        | (obtain ⟨_, hx, _⟩ := hx; simp [execOp, hx]; done)
  · -- len
    rename_i args ts
    split at h <;> try (simp at h; done)
    rename_i x t hx ht
    have hrun : ∀ y, (Builtin.len_ #[t] type #[a.eval x]).run P w = .ok y w → (execOp a.eval ⟨dst, .call ⟨.builtin .len, args, ts⟩, type, pos, after, guard⟩).run P w = .ok (.value y) w := by
      intro y hy
      have h0 : (Builtin.len_ ts type (args.map a.eval)).run P w = .ok y w := by
        unfold Builtin.len_ at hy ⊢
        simp only [List.getElem?_toArray, Array.getElem?_map, hx, ht, Option.map_some] at hy ⊢
        simpa using hy
      simp [execOp, resolve, invoke, builtin, h0]
    split at h <;> try (simp at h; done)
    · rename_i g s h1 hu
      simp at h; obtain ⟨e', rfl⟩ := h
      have hv := opv_sound h1 (e'.2 hc) hf
      simp only [RO, R] at hv
      refine ⟨.int .i64 s.length, hrun _ ?_, by simp [RO, R]⟩
      have hsz : (⟨⟨s⟩⟩ : ByteArray).size = s.length := rfl
      simp [Builtin.len_, run_underlying hu, goInt, hv.1, hsz]
    · rename_i g es e h1 hu
      simp at h; obtain ⟨e', rfl⟩ := h
      have hv := opv_sound h1 (e'.2 hc) hf
      simp only [RO, R] at hv
      obtain ⟨b, cap, hv, _⟩ := hv
      refine ⟨.int .i64 es.length, hrun _ ?_, by simp [RO, R]⟩
      simp [Builtin.len_, run_underlying hu, goInt, hv]
    · rename_i g m k e h1 hu
      split at h <;> simp at h
      rename_i kvs hkv
      obtain ⟨e', rfl⟩ := h
      exact ⟨.int .i64 kvs.length, hrun _ (lenMap_sound hu hkv hm (opv_sound h1 (e'.2 hc) hf)), by simp [RO, R]⟩
  · -- max
    rename_i args ts
    split at h <;> try (simp at h; done)
    rename_i x y hxy
    split at h <;> try (simp at h; done)
    rename_i g u g' u' h1 h2
    split at h <;> simp at h
    rename_i g'' v' h3
    obtain ⟨e', rfl⟩ := h
    obtain ⟨k1, k2, k3⟩ := e'.2 hc
    obtain ⟨z, hz, hr⟩ := mxV_sound (P := P) (isMax := true) h3 k3 (opv_sound h1 k1 hf) (opv_sound h2 k2 hf) ts type
    have ha : args = #[x, y] := by rw [← Array.toArray_toList (xs := args), hxy]
    subst ha
    refine ⟨z, ?_, .of_R hr⟩
    simp at hz
    simp [execOp, resolve, invoke, builtin, hz]
  · -- min
    rename_i args ts
    split at h <;> try (simp at h; done)
    rename_i x y hxy
    split at h <;> try (simp at h; done)
    rename_i g u g' u' h1 h2
    split at h <;> simp at h
    rename_i g'' v' h3
    obtain ⟨e', rfl⟩ := h
    obtain ⟨k1, k2, k3⟩ := e'.2 hc
    obtain ⟨z, hz, hr⟩ := mxV_sound (P := P) (isMax := false) h3 k3 (opv_sound h1 k1 hf) (opv_sound h2 k2 hf) ts type
    have ha : args = #[x, y] := by rw [← Array.toArray_toList (xs := args), hxy]
    subst ha
    refine ⟨z, ?_, .of_R hr⟩
    simp at hz
    simp [execOp, resolve, invoke, builtin, hz]
  · simp at h
end
end Go.Eng
