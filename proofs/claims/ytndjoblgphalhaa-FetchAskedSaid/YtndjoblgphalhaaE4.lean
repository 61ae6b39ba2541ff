/- The engine, part 4: every operation that leaves memory alone, as one function, and that the model does what it says. -/
import Derived.Test.YtndjoblgphalhaaE3
namespace Go.Eng
set_option linter.unusedSimpArgs false
set_option linter.unusedVariables false

def fieldInfo (P : Program) (t : TypeId) (f : Nat) : Option (Nat × TI) :=
  match P.underlying t with
  | some (.struct fs) =>
    match fs[f]? with
    | some fd =>
      match ti P fd.type with
      | some T => some (fd.offset, T)
      | none => none
    | none => none
  | _ => none

def addrAdd (v : V) (n : Nat) : Option V :=
  match v with
  | .ptr o off => some (.ptr o (off + n))
  | .lref s g off => some (.lref s g (off + n))
  | .eref cs off => some (.eref cs (off + n))
  | _ => none

theorem addrAdd_sound {E : Env} {w : World} {v u : V} {n : Nat} {x : Value} (h : addrAdd v n = some u) (hr : RO E w v x) :
    ∃ b off, x = .pointer (some ⟨b, off, none⟩) ∧ RO E w u (.pointer (some ⟨b, off + n, none⟩)) := by
  unfold addrAdd at h
  split at h <;> simp at h
  · subst h; simp only [RO, R] at hr; obtain ⟨b, hb, rfl⟩ := hr; exact ⟨b, _, rfl, by simp only [RO, R]; exact ⟨b, hb, rfl⟩⟩
  · subst h; simp only [RO] at hr; obtain ⟨b, hb, rfl⟩ := hr; exact ⟨b, _, rfl, by simp only [RO]; exact ⟨b, hb, rfl⟩⟩
  · subst h; simp only [RO, R] at hr; obtain ⟨b, base, rfl, h1, h2, h3⟩ := hr; exact ⟨b, _, rfl, by simp only [RO, R]; exact ⟨b, base, by rw [Nat.add_assoc], h1, h2, h3⟩⟩

theorem addr_add (b off n : Nat) : (⟨b, off, none⟩ : Addr).add n = ⟨b, off + n, none⟩ := by
  unfold Addr.add; split
  · subst_vars; rfl
  · rfl

/-- Reading through an address. -/
def loadA (M : Heap) (fr : Nat → V) (T : TI) : V → Option (Prop × V)
  | .lref s g off =>
    match fr s with
    | .box g' cs => match loadV T cs off with
      | some v => some (g = g', v)
      | none => none
    | _ => none
  | .eref cs off => match loadV T cs off with
    | some v => some (True, v)
    | none => none
  | .ptr o off =>
    match M o with
    | some (.cells cs) => match loadV T cs off with
      | some v => some (True, v)
      | none => none
    | _ => none
  | _ => none

theorem loadA_sound {P : Program} {E : Env} {w : World} {M : Heap} {fr : Nat → V} {tmps : Array Value} {t : TypeId} {T : TI} {a v : V} {c : Prop} {x : Value} (ht : ti P t = some T)
    (h : loadA M fr T a = some (c, v)) (hc : c) (hf : FR E w fr tmps) (hm : RH E w M) (hr : RO E w a x) : ∃ y, (Instr.loadAt t x).run P w = .ok y w ∧ R E w v y := by
  unfold loadA at h
  split at h
  · rename_i s g off
    split at h
    · rename_i g' cs hs
      split at h <;> simp at h
      rename_i v' hl
      obtain ⟨h1, rfl⟩ := h
      rw [← h1] at hc; subst hc
      simp only [RO, R] at hr
      obtain ⟨b, hb, rfl⟩ := hr
      have := hf s
      rw [hs] at this
      simp only [RS] at this
      obtain ⟨b', arr, ty, hb', _, hh, hl'⟩ := this
      rw [hb] at hb'; cases hb'
      obtain ⟨y, hy, hry⟩ := loadVar_sound (P := P) (base := 0) ht hl (RL.mem hh (k := 0) (by simpa using hl'))
      exact ⟨y, by simpa [Instr.loadAt, Instr.sureAddr] using hy, hry⟩
    · simp at h
  · rename_i cs off
    split at h <;> simp at h
    rename_i v' hl
    obtain ⟨_, rfl⟩ := h
    simp only [RO, R] at hr
    obtain ⟨b, base, rfl, h1, h2, h3⟩ := hr
    obtain ⟨y, hy, hry⟩ := loadVar_sound (P := P) ht hl h3
    exact ⟨y, by simpa [Instr.loadAt, Instr.sureAddr] using hy, hry⟩
  · rename_i o off
    split at h
    · rename_i cs ho
      split at h <;> simp at h
      rename_i v' hl
      obtain ⟨_, rfl⟩ := h
      simp only [RO, R] at hr
      obtain ⟨b, hb, rfl⟩ := hr
      obtain ⟨b', hb', arr, ty, hh, hl'⟩ := hm o _ ho
      rw [hb] at hb'; cases hb'
      obtain ⟨y, hy, hry⟩ := loadVar_sound (P := P) (base := 0) ht hl (RL.mem hh (k := 0) (by simpa using hl'))
      exact ⟨y, by simpa [Instr.loadAt, Instr.sureAddr] using hy, hry⟩
    · simp at h
  · simp at h

/-! ### Slicing -/
def cutL {α : Type} (s : List α) : Option Nat → Option Nat → List α
  | none, none => s
  | some l, none => s.drop l
  | none, some h => s.take h
  | some l, some h => (s.take h).drop l

/-- An optional bound. -/
def boundV (fr : Nat → V) : Option Operand → Option (Prop × Option Int)
  | none => some (True, none)
  | some x => match opv fr x with
    | some (g, .int _ n) => some (g, some n)
    | _ => none

def boundsOk (len : Nat) (l h : Option Int) : Prop := 0 ≤ l.getD 0 ∧ l.getD 0 ≤ h.getD len ∧ h.getD len ≤ len

theorem sliceBounds_sound {P : Program} {w : World} {isSlice : Bool} {len cap : Nat} {l h : Option Int} {lo hi : Option Value} (hcap : len ≤ cap) (hl : ∀ n, l = some n → ∃ k, lo = some (.int k n)) (hl' : l = none → lo = none)
    (hh : ∀ n, h = some n → ∃ k, hi = some (.int k n)) (hh' : h = none → hi = none) (ho : boundsOk len l h) :
    (Instr.sliceBounds isSlice len cap lo hi none).run P w = .ok ((l.getD 0).toNat, (h.getD len).toNat, cap) w := by
  obtain ⟨h1, h2, h3⟩ := ho
  have e1 : lo = none ∧ l = none ∨ ∃ k n, lo = some (.int k n) ∧ l = some n := by
    cases l with
    | none => exact .inl ⟨hl' rfl, rfl⟩
    | some n => obtain ⟨k, hk⟩ := hl n rfl; exact .inr ⟨k, n, hk, rfl⟩
  have e2 : hi = none ∧ h = none ∨ ∃ k n, hi = some (.int k n) ∧ h = some n := by
    cases h with
    | none => exact .inl ⟨hh' rfl, rfl⟩
    | some n => obtain ⟨k, hk⟩ := hh n rfl; exact .inr ⟨k, n, hk, rfl⟩
  rcases e1 with ⟨rfl, rfl⟩ | ⟨k, n, rfl, rfl⟩ <;> rcases e2 with ⟨rfl, rfl⟩ | ⟨k', n', rfl, rfl⟩ <;> simp only [Option.getD_some, Option.getD_none] at *
  · simp [Instr.sliceBounds]
  · simp [Instr.sliceBounds, run_sliceBound (P := P) (w := w) k' n' cap _ (by omega) (by omega)]
  · simp [Instr.sliceBounds, run_sliceBound (P := P) (w := w) k n len _ (by omega) (by omega)]
  · have : n ≤ (n'.toNat : Int) := by omega
    simp [Instr.sliceBounds, run_sliceBound (P := P) (w := w) k' n' cap _ (by omega) (by omega), run_sliceBound (P := P) (w := w) k n n'.toNat _ (by omega) (by omega)]

theorem cutL_eq {α : Type} (s : List α) (l h : Option Int) (ho : boundsOk s.length l h) : cutL s (l.map Int.toNat) (h.map Int.toNat) = (s.take (h.getD s.length).toNat).drop (l.getD 0).toNat := by
  obtain ⟨h1, h2, h3⟩ := ho
  cases l <;> cases h <;> simp [cutL]

theorem boundV_sound {E : Env} {w : World} {fr : Nat → V} {a : Act} {x : Option Operand} {c : Prop} {l : Option Int} (h : boundV fr x = some (c, l)) (hc : c) (hf : FR E w fr a.tmps) :
    (∀ n, l = some n → ∃ k, x.map a.eval = some (.int k n)) ∧ (l = none → x.map a.eval = none) := by
  unfold boundV at h
  split at h
  · simp at h; obtain ⟨_, rfl⟩ := h; simp
  · split at h <;> simp at h
    rename_i g k n ho
    obtain ⟨hg, rfl⟩ := h
    have := opv_sound ho (hg.2 hc) hf
    simp only [RO, R] at this
    exact ⟨fun m hm => by cases hm; exact ⟨k, by simp [this]⟩, fun hm => by cases hm⟩

def sliceV (P : Program) (t : TypeId) (x : V) (l h : Option Int) : Option (Prop × V) :=
  match P.underlying t, x with
  | some .string, .str s => some (boundsOk s.length l h, .str (cutL s (l.map Int.toNat) (h.map Int.toNat)))
  | some (.slice e), .lst es =>
    match ti P e with
    | some T => some (boundsOk es.length l h ∧ (∀ c ∈ es, c.length = T.size), .lst (cutL es (l.map Int.toNat) (h.map Int.toNat)))
    | none => none
  | _, _ => none

theorem sliceV_sound {P : Program} {E : Env} {w : World} {t : TypeId} {v u : V} {x : Value} {l h : Option Int} {lo hi : Option Value} {c : Prop}
    (hs : sliceV P t v l h = some (c, u)) (hc : c) (hr : RO E w v x) (hl : ∀ n, l = some n → ∃ k, lo = some (.int k n)) (hl' : l = none → lo = none)
    (hh : ∀ n, h = some n → ∃ k, hi = some (.int k n)) (hh' : h = none → hi = none) : ∃ y, (Instr.sliceAt t x lo hi none).run P w = .ok y w ∧ R E w u y := by
  unfold sliceV at hs
  split at hs
  · rename_i s hu
    simp at hs; obtain ⟨h1, rfl⟩ := hs
    rw [← h1] at hc
    simp only [RO, R] at hr
    obtain ⟨rfl, hlen⟩ := hr
    have hb := sliceBounds_sound (P := P) (w := w) (isSlice := false) (len := s.length) (cap := s.length) (Nat.le_refl _) hl hl' hh hh' hc
    have hsz : (⟨⟨s⟩⟩ : ByteArray).size = s.length := rfl
    refine ⟨.string ((⟨⟨s⟩⟩ : ByteArray).extract (l.getD 0).toNat (h.getD s.length).toNat), ?_, ?_⟩
    · simp only [Instr.sliceAt, Sem.run_bind, run_underlying hu, Result.andThen_ok, Instr.slice]
      simp [run_underlying hu, hsz, hb]
    · rw [cutL_eq s l h hc]
      simp only [R]
      refine ⟨?_, by simp; omega⟩
      congr 1
      apply ByteArray.ext
      apply Array.ext'
      rw [ByteArray.data_extract, Array.toList_extract, List.drop_take]
  · rename_i e es hu
    split at hs <;> simp at hs
    rename_i T hT
    obtain ⟨h1, rfl⟩ := hs
    rw [← h1] at hc
    obtain ⟨hc, hsz⟩ := hc
    simp only [RO, R] at hr
    obtain ⟨a, cap, rfl, hcap, hmax, hmem⟩ := hr
    have hb := sliceBounds_sound (P := P) (w := w) (isSlice := true) (len := es.length) (cap := cap) hcap hl hl' hh hh' hc
    refine ⟨.slice (if cap = (l.getD 0).toNat then a else a.map (·.add ((l.getD 0).toNat * T.size))) ((h.getD es.length).toNat - (l.getD 0).toNat) (cap - (l.getD 0).toNat), ?_, ?_⟩
    · simp only [Instr.sliceAt, Sem.run_bind, run_underlying hu, Result.andThen_ok, Instr.slice]
      simp [run_underlying hu, hb, run_sizeOf hT]
    · rw [cutL_eq es l h hc]
      obtain ⟨g1, g2, g3⟩ := hc
      have hlen : ((es.take (h.getD es.length).toNat).drop (l.getD 0).toNat).length = (h.getD es.length).toNat - (l.getD 0).toNat := by simp; omega
      simp only [R]
      rw [hlen]
      refine ⟨_, _, rfl, by omega, by omega, ?_⟩
      rcases hmem with rfl | ⟨b, off, sz, rfl, hb1, hb2, hre⟩
      · exact .inl (by simp)
      · by_cases hz : cap = (l.getD 0).toNat
        · left
          apply List.eq_nil_of_length_eq_zero
          rw [hlen]; omega
        · cases es with
          | nil => exact .inl (by simp)
          | cons e0 es0 =>
            have hsz0 : sz = T.size := by
              simp only [RE] at hre
              rw [← hre.1]
              exact hsz e0 (by simp)
            subst hsz0
            right
            refine ⟨b, off + (l.getD 0).toNat * T.size, T.size, ?_, hb1, hb2, (hre.take _).drop _⟩
            rw [if_neg hz]
            simp [addr_add]
  · simp at hs

/-! ### Maps -/
def keyEq : V → V → Option Bool
  | .int k a, .int k' b => if k = k' then some (a == b) else none
  | .str a, .str b => some (a == b)
  | .bool a, .bool b => some (a == b)
  | _, _ => none

/-- The first entry of a key: where, and what. -/
def findKV (key : V) : List (V × V) → Nat → Option (Option (Nat × V))
  | [], _ => some none
  | (k, v) :: kvs, i =>
    match keyEq key k with
    | some true => some (some (i, v))
    | some false => findKV key kvs (i + 1)
    | none => none

def keyKind (d : TypeDesc) (key : V) : Bool :=
  match d, key with
  | .int _, .int _ _ => true
  | .string, .str _ => true
  | .bool, .bool _ => true
  | _, _ => false

theorem findKV_sound {E : Env} {w : World} {d : TypeDesc} {key : V} {x : Value} (hk : keyKind d key = true) (hr : R E w key x) : ∀ (kvs : List (V × V)) (es : List MapEntry) (i : Nat) (r : Option (Nat × V)), findKV key kvs i = some r → RKV E w kvs es →
    match r with
    | none => Instr.findNow d x es i = some none
    | some (j, v) => ∃ y, Instr.findNow d x es i = some (some (j, y)) ∧ R E w v y ∧ i ≤ j ∧ ∃ e, es[j - i]? = some e ∧ e.val = y ∧ keyEq key (kvs.getD (j - i) default).1 = some true
  | [], es, i, r, h, hkv => by simp [findKV] at h; subst h; simp [RKV] at hkv; subst hkv; simp [Instr.findNow]
  | (k, v) :: kvs, es, i, r, h, hkv => by
    simp only [RKV] at hkv
    obtain ⟨e, rest, rfl, h1, h2, h3⟩ := hkv
    have hsame : ∀ b, keyEq key k = some b → Instr.sameNow d x e.key = some b := by
      intro b hb
      cases key <;> cases k <;> simp [keyEq] at hb <;> cases d <;> simp [keyKind] at hk
      · simp only [R] at hr h1; subst hr; rw [h1]; simp [Instr.sameNow, hb]
      · obtain ⟨rfl, rfl⟩ := hb; simp only [R] at hr h1; subst hr; rw [h1]; simp [Instr.sameNow]
      · simp only [R] at hr h1; obtain ⟨rfl, _⟩ := hr; rw [h1.1]; simp [Instr.sameNow, bytes_beq, hb]
    unfold findKV at h
    cases hq : keyEq key k with
    | none => simp [hq] at h
    | some b =>
      simp only [hq] at h
      cases b with
      | true =>
        simp at h; subst h
        exact ⟨e.val, by simp [Instr.findNow, hsame _ hq], h2, Nat.le_refl _, e, by simp, rfl, by simpa using hq⟩
      | false =>
        simp at h
        have ih := findKV_sound hk hr kvs rest (i + 1) r h h3
        cases r with
        | none => simpa [Instr.findNow, hsame _ hq] using ih
        | some jv =>
          obtain ⟨j, v'⟩ := jv
          obtain ⟨y, g1, g2, g3, e', g4, g5, g6⟩ := ih
          refine ⟨y, by simpa [Instr.findNow, hsame _ hq] using g1, g2, by omega, e', ?_, g5, ?_⟩
          · rw [show j - i = (j - (i + 1)) + 1 by omega]; simpa using g4
          · rw [show j - i = (j - (i + 1)) + 1 by omega]; simpa using g6

theorem checkKey_ok {P : Program} {E : Env} {w : World} {t : TypeId} {d : TypeDesc} {key : V} {x : Value} (hd : P.underlying t = some d) (hk : keyKind d key = true) (hr : R E w key x) (b : Bool) : (Instr.checkKey b 10000 t x).run P w = .ok () w := by
  unfold Instr.checkKey
  cases d <;> cases key <;> simp [keyKind] at hk
  all_goals
    simp only [R] at hr
    first
      | (subst hr; simp [run_underlying hd]; done)
      | (obtain ⟨rfl, _⟩ := hr; simp [run_underlying hd]; done)

/-- The zero value of a type. -/
def constVL : List Value → Option (List V)
  | [] => some []
  | x :: xs => match constV x, constVL xs with
    | some v, some vs => some (v :: vs)
    | _, _ => none

theorem constVL_sound {E : Env} {w : World} : ∀ {xs : List Value} {vs : List V}, constVL xs = some vs → RL E w vs xs
  | [], vs, h => by simp [constVL] at h; subst h; simp [RL]
  | x :: xs, vs, h => by
    simp only [constVL] at h
    split at h <;> simp at h
    rename_i v vs' h1 h2
    subst h
    simp only [RL]
    exact ⟨x, xs, rfl, constV_sound h1, constVL_sound h2⟩

def zeroV (P : Program) (t : TypeId) : Option V :=
  match P.info? t with
  | some i =>
    match i.zero with
    | some (.agg cs) => match constVL cs.toList with
      | some vs => some (.agg vs)
      | none => none
    | some x => constV x
    | none => none
  | none => none

theorem zeroV_sound {P : Program} {E : Env} {w : World} {t : TypeId} {v : V} (h : zeroV P t = some v) : ∃ x, (zeroValue t).run P w = .ok x w ∧ R E w v x := by
  unfold zeroV at h
  split at h
  · rename_i i hi
    split at h
    · rename_i cs hz
      split at h <;> simp at h
      rename_i vs hv
      subst h
      exact ⟨.agg cs, by simp [zeroValue, typeInfo, hi, hz], by simp only [R]; exact ⟨cs, rfl, constVL_sound hv⟩⟩
    · rename_i x _ hz
      exact ⟨x, by simp [zeroValue, typeInfo, hi, hz], constV_sound h⟩
    · simp at h
  · simp at h

/-- What a map holds. -/
def mapKVs (M : Heap) : V → Option (List (V × V))
  | .nilm => some []
  | .map o => match M o with
    | some (.map kvs) => some kvs
    | _ => none
  | _ => none

def lookupV (P : Program) (M : Heap) (t : TypeId) (m key : V) (ok : Bool) : Option V :=
  match P.underlying t with
  | some (.map kt et) =>
    match P.underlying kt, mapKVs M m with
    | some d, some kvs =>
      if keyKind d key then
        match findKV key kvs 0 with
        | some (some (_, v)) => some (if ok then .tup [v, .bool true] else v)
        | some none => match zeroV P et with
          | some z => some (if ok then .tup [z, .bool false] else z)
          | none => none
        | none => none
      else none
    | _, _ => none
  | _ => none

theorem lookupV_sound {P : Program} {E : Env} {w : World} {M : Heap} {t : TypeId} {m key v : V} {ok : Bool} {x y : Value} (h : lookupV P M t m key ok = some v) (hm : RH E w M) (hx : RO E w m x) (hy0 : RO E w key y) :
    ∃ z, (Instr.lookup t x y ok).run P w = .ok z w ∧ R E w v z := by
  unfold lookupV at h
  split at h
  case h_2 => simp at h
  rename_i kt et hu
  split at h
  case h_2 => simp at h
  rename_i d kvs hd hkv
  split at h
  case isFalse => simp at h
  rename_i hk
  have hy : R E w key y := hy0.toR (fun s g o e => by subst e; cases d <;> simp [keyKind] at hk)
  have hes : ∃ es : Array MapEntry, RKV E w kvs es.toList ∧ (x = .map none ∧ es = #[] ∨ ∃ b clock, x = .map (some b) ∧ w.heap[b]? = some (.map es clock)) := by
    unfold mapKVs at hkv
    split at hkv
    · simp at hkv; subst hkv; simp only [RO, R] at hx; subst hx; exact ⟨#[], by simp [RKV], .inl ⟨rfl, rfl⟩⟩
    · rename_i o
      split at hkv <;> simp at hkv
      rename_i kvs' ho
      subst hkv
      simp only [RO, R] at hx
      obtain ⟨b, hb, rfl⟩ := hx
      obtain ⟨b', hb', es, clock, hh, hr⟩ := hm o _ ho
      rw [hb] at hb'; cases hb'
      exact ⟨es, hr, .inr ⟨b, clock, rfl, hh⟩⟩
    · simp at hkv
  obtain ⟨es, hre, hrun⟩ := hes
  have hck := checkKey_ok (P := P) (w := w) hd hk hy es.isEmpty
  have hget : ∀ b clock, w.heap[b]? = some (.map es clock) → (getObj b).run P w = .ok (.map es clock) w := fun b clock hh => by simp [getObj, Sem.run, hh]
  have hfk : ∀ r, Instr.findNow d y es.toList 0 = some r → (Instr.findKey kt y es.toList).run P w = .ok r w := by
    intro r hr
    simp [Instr.findKey, run_underlying hd, hr]
  split at h
  · rename_i j v' hf
    obtain ⟨z, g1, g2, _⟩ := findKV_sound hk hy kvs es.toList 0 _ hf hre
    simp at h
    refine ⟨if ok then .tuple #[z, .bool true] else z, ?_, ?_⟩
    · have hk := hfk _ g1
      rcases hrun with ⟨rfl, rfl⟩ | ⟨b, clock, rfl, hh⟩
      · simp at hck hk
        cases ok <;> simp [Instr.lookup, run_underlying hu, hck, hk]
      · cases ok <;> simp [Instr.lookup, run_underlying hu, hget _ _ hh, hck, hk]
    · subst h; cases ok
      · simpa using g2
      · simp only [if_true, R]; exact ⟨_, rfl, by simp [RL, R, g2]⟩
  · rename_i hf
    have g1 := findKV_sound hk hy kvs es.toList 0 _ hf hre
    split at h <;> simp at h
    rename_i z hz
    obtain ⟨z', hz1, hz2⟩ := zeroV_sound (P := P) (E := E) (w := w) hz
    refine ⟨if ok then .tuple #[z', .bool false] else z', ?_, ?_⟩
    · have hk := hfk _ g1
      rcases hrun with ⟨rfl, rfl⟩ | ⟨b, clock, rfl, hh⟩
      · simp at hck hk
        cases ok <;> simp [Instr.lookup, run_underlying hu, hck, hk, hz1]
      · cases ok <;> simp [Instr.lookup, run_underlying hu, hget _ _ hh, hck, hk, hz1]
    · subst h; cases ok
      · simpa using hz2
      · simp only [if_true, R]; exact ⟨_, rfl, by simp [RL, R, hz2]⟩
  · simp at h
end Go.Eng
