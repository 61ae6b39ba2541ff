/- The engine, part 2: operations that leave memory alone, evaluated on abstract values; that the model does the same. -/
import Derived.Test.YtndjoblgphalhaaE1
import Derived.Laws.StructEq
namespace Go.Eng
set_option linter.unusedSimpArgs false
set_option linter.unusedVariables false

/-! ### Types -/
structure TI where
  desc : TypeDesc
  size : Nat
  agg : Bool

def isAggD : TypeDesc → Bool
  | .struct _ | .array _ _ => true
  | _ => false

def ti (P : Program) (t : TypeId) : Option TI :=
  match P.underlying t, P.info? t with
  | some d, some i => some ⟨d, i.size, isAggD d⟩
  | _, _ => none

theorem ti_und {P : Program} {t : TypeId} {T : TI} (h : ti P t = some T) : P.underlying t = some T.desc := by
  unfold ti at h; split at h <;> simp_all; subst h; rfl
theorem ti_info {P : Program} {t : TypeId} {T : TI} (h : ti P t = some T) : ∃ i, P.info? t = some i ∧ i.size = T.size := by
  unfold ti at h; split at h <;> simp_all; subst h; rfl
theorem ti_agg {P : Program} {t : TypeId} {T : TI} (h : ti P t = some T) : T.agg = isAggD T.desc := by
  unfold ti at h; split at h <;> simp_all; subst h; rfl

theorem run_sizeOf {P : Program} {w : World} {t : TypeId} {T : TI} (h : ti P t = some T) : (sizeOf t).run P w = .ok T.size w := by
  obtain ⟨i, hi, hs⟩ := ti_info h
  simp [sizeOf, typeInfo, hi, hs]
theorem run_isAgg {P : Program} {w : World} {t : TypeId} {T : TI} (h : ti P t = some T) : (isAgg t).run P w = .ok T.agg w := by
  simp only [isAgg, Sem.run_bind, run_underlying (ti_und h), Result.andThen_ok]
  rw [ti_agg h]
  cases T.desc <;> simp [isAggD]

/-! ### Constants and operands -/
def constV : Value → Option V
  | .bool b => some (.bool b)
  | .int k n => some (.int k n)
  | .string s => if s.data.toList.length ≤ maxLen then some (.str s.data.toList) else none
  | .pointer none => some .nilp
  | .slice none 0 0 => some (.lst [])
  | .map none => some .nilm
  | .nilFunc => some .nilf
  | .nilIface => some .nili
  | .func f first cap => if first.isEmpty && cap.isEmpty then some (.fn f [] []) else none
  | _ => none

theorem constV_sound {E : Env} {w : World} {x : Value} {v : V} (h : constV x = some v) : R E w v x := by
  unfold constV at h
  split at h <;> simp at h
  case h_1 => subst h; simp [R]
  case h_2 => subst h; simp [R]
  case h_3 => obtain ⟨h1, rfl⟩ := h; simpa [R] using h1
  case h_4 => subst h; simp [R]
  case h_5 => subst h; simp only [R]; exact ⟨none, 0, rfl, Nat.le_refl _, Nat.zero_le _, Or.inl trivial⟩
  case h_6 => subst h; simp [R]
  case h_7 => subst h; simp [R]
  case h_8 => subst h; simp [R]
  case h_9 => obtain ⟨⟨h1, h2⟩, rfl⟩ := h; subst h1; subst h2; simp only [R]; exact ⟨#[], #[], rfl, by simp [RL], by simp [RL]⟩

/-- What is read of a slot, and under which condition. -/
def slotV (t : Nat) : V → Option (Prop × V)
  | .box g _ => some (True, .lref t g 0)
  | .itr _ _ _ => none
  | .when c v => match slotV t v with
    | some (d, u) => some (c = true ∧ d, u)
    | none => none
  | v => some (True, v)

def opv (fr : Nat → V) : Operand → Option (Prop × V)
  | .tmp t => slotV t (fr t)
  | .const v => match constV v with
    | some u => some (True, u)
    | none => none
  | .func f => some (True, .fn (.func f) [] [])
  | .global _ => none

/-- What an operand stands for: a value, or the address of a local variable. -/
def RO (E : Env) (w : World) : V → Value → Prop
  | .lref s g off, x => ∃ b, E.bx s g = some b ∧ x = .pointer (some ⟨b, off, none⟩)
  | v, x => R E w v x

/-- What stands in a slot. -/
def RS (E : Env) (w : World) (t : Nat) : V → Value → Prop
  | .box g cs, x => ∃ b arr ty, E.bx t g = some b ∧ x = .pointer (some ⟨b, 0, none⟩) ∧ w.heap[b]? = some (.cells arr ty (0, 0)) ∧ RL E w cs arr.toList
  | .itr g s pos, x => ∃ b, E.bx t g = some b ∧ x = .pointer (some ⟨b, 0, none⟩) ∧ w.heap[b]? = some (.stringIter ⟨⟨s⟩⟩ pos) ∧ s.length ≤ maxLen
  | .lref s g off, x => ∃ b, E.bx s g = some b ∧ x = .pointer (some ⟨b, off, none⟩)
  | .when c v, x => (c = true → RS E w t v x) ∧ (c = false → x = undef)
  | v, x => R E w v x

theorem slotV_sound {E : Env} {w : World} {t : Nat} : ∀ {v : V} {x : Value} {c : Prop} {u : V}, slotV t v = some (c, u) → c → RS E w t v x → RO E w u x
  | .box g cs, x, c, u, h, hc, hr => by
    simp [slotV] at h; obtain ⟨_, rfl⟩ := h
    simp only [RS] at hr
    obtain ⟨b, arr, ty, h1, rfl, _⟩ := hr
    simp only [RO]; exact ⟨b, h1, rfl⟩
  | .itr _ _ _, x, c, u, h, hc, hr => by simp [slotV] at h
  | .when d v, x, c, u, h, hc, hr => by
    simp only [slotV] at h
    split at h
    · rename_i e u' hv
      simp at h; obtain ⟨h1, rfl⟩ := h
      rw [← h1] at hc
      simp only [RS] at hr
      exact slotV_sound hv hc.2 (hr.1 hc.1)
    · simp at h
  | .any, x, c, u, h, hc, hr => by simp [slotV] at h; obtain ⟨_, rfl⟩ := h; simpa only [RS, RO] using hr
  | .bool _, x, c, u, h, hc, hr => by simp [slotV] at h; obtain ⟨_, rfl⟩ := h; simpa only [RS, RO] using hr
  | .int _ _, x, c, u, h, hc, hr => by simp [slotV] at h; obtain ⟨_, rfl⟩ := h; simpa only [RS, RO] using hr
  | .str _, x, c, u, h, hc, hr => by simp [slotV] at h; obtain ⟨_, rfl⟩ := h; simpa only [RS, RO] using hr
  | .agg _, x, c, u, h, hc, hr => by simp [slotV] at h; obtain ⟨_, rfl⟩ := h; simpa only [RS, RO] using hr
  | .tup _, x, c, u, h, hc, hr => by simp [slotV] at h; obtain ⟨_, rfl⟩ := h; simpa only [RS, RO] using hr
  | .lst _, x, c, u, h, hc, hr => by simp [slotV] at h; obtain ⟨_, rfl⟩ := h; simpa only [RS, RO] using hr
  | .nilp, x, c, u, h, hc, hr => by simp [slotV] at h; obtain ⟨_, rfl⟩ := h; simpa only [RS, RO] using hr
  | .ptr _ _, x, c, u, h, hc, hr => by simp [slotV] at h; obtain ⟨_, rfl⟩ := h; simpa only [RS, RO] using hr
  | .eref _ _, x, c, u, h, hc, hr => by simp [slotV] at h; obtain ⟨_, rfl⟩ := h; simpa only [RS, RO] using hr
  | .lref _ _ _, x, c, u, h, hc, hr => by simp [slotV] at h; obtain ⟨_, rfl⟩ := h; simpa only [RS, RO] using hr
  | .nilm, x, c, u, h, hc, hr => by simp [slotV] at h; obtain ⟨_, rfl⟩ := h; simpa only [RS, RO] using hr
  | .map _, x, c, u, h, hc, hr => by simp [slotV] at h; obtain ⟨_, rfl⟩ := h; simpa only [RS, RO] using hr
  | .fn _ _ _, x, c, u, h, hc, hr => by simp [slotV] at h; obtain ⟨_, rfl⟩ := h; simpa only [RS, RO] using hr
  | .nilf, x, c, u, h, hc, hr => by simp [slotV] at h; obtain ⟨_, rfl⟩ := h; simpa only [RS, RO] using hr
  | .iface _ _, x, c, u, h, hc, hr => by simp [slotV] at h; obtain ⟨_, rfl⟩ := h; simpa only [RS, RO] using hr
  | .nili, x, c, u, h, hc, hr => by simp [slotV] at h; obtain ⟨_, rfl⟩ := h; simpa only [RS, RO] using hr

/-- A frame. -/
def FR (E : Env) (w : World) (fr : Nat → V) (tmps : Array Value) : Prop := ∀ t, RS E w t (fr t) (tmps.getD t undef)

theorem RO.of_R {E : Env} {w : World} {v : V} {x : Value} (h : R E w v x) : RO E w v x := by
  cases v <;> first | exact h | (simp [R] at h)

theorem RO.of_const {E : Env} {w : World} {v : V} {x : Value} (h : constV x = some v) : RO E w v x := RO.of_R (constV_sound h)

theorem RO.toR {E : Env} {w : World} {v : V} {x : Value} (h : RO E w v x) (hv : ∀ s g o, v ≠ .lref s g o) : R E w v x := by
  cases v <;> first | exact h | exact absurd rfl (hv _ _ _)

theorem RS.of_RO {E : Env} {w : World} {t : Nat} {v : V} {x : Value} (h : RO E w v x) : RS E w t v x := by
  cases v <;> first | exact h | (simp [RO, R] at h; done)

theorem opv_sound {E : Env} {w : World} {fr : Nat → V} {a : Act} {x : Operand} {c : Prop} {v : V} (h : opv fr x = some (c, v)) (hc : c) (hf : FR E w fr a.tmps) : RO E w v (a.eval x) := by
  cases x with
  | tmp t => exact slotV_sound h hc (hf t)
  | const y =>
    simp only [opv] at h
    split at h <;> simp at h
    rename_i u hu
    obtain ⟨_, rfl⟩ := h
    exact RO.of_const hu
  | global g => simp [opv] at h
  | func f => simp [opv] at h; obtain ⟨_, rfl⟩ := h; simp only [RO, R, Act.eval]; exact ⟨#[], #[], rfl, by simp [RL], by simp [RL]⟩

/-! ### Parts -/
def loadV (T : TI) (cs : List V) (off : Nat) : Option V :=
  match T.agg with
  | true => if off + T.size ≤ cs.length then some (.agg ((cs.drop off).take T.size)) else none
  | false => cs[off]?

theorem part_sound {P : Program} {E : Env} {w : World} {t : TypeId} {T : TI} {cs : List V} {xs : Array Value} {off : Nat} {v : V} (ht : ti P t = some T) (h : loadV T cs off = some v) (hr : RL E w cs xs.toList) :
    ∃ x, (part t xs off).run P w = .ok x w ∧ R E w v x := by
  simp only [part, Sem.run_bind, run_isAgg ht, Result.andThen_ok]
  unfold loadV at h
  cases hT : T.agg with
  | true =>
    simp only [hT] at h
    split at h <;> simp at h
    subst h
    refine ⟨.agg (xs.extract off (off + T.size)), by simp [run_sizeOf ht], ?_⟩
    simp only [R]
    refine ⟨_, rfl, ?_⟩
    have := (hr.drop off).take T.size
    simpa [Array.toList_extract, List.extract_eq_drop_take'] using this
  | false =>
    simp only [hT] at h
    obtain ⟨x, hx, hv⟩ := hr.get h
    refine ⟨x, ?_, hv⟩
    have : xs[off]? = some x := by simpa using hx
    simp [this]

/-- Reading a variable whose cells lie in memory. -/
theorem loadVar_sound {P : Program} {E : Env} {w : World} {t : TypeId} {T : TI} {cs : List V} {off b base : Nat} {v : V} (ht : ti P t = some T) (h : loadV T cs off = some v) (hr : RM E w cs b base) :
    ∃ x, (loadVar t ⟨b, base + off, none⟩).run P w = .ok x w ∧ R E w v x := by
  simp only [loadVar, Sem.run_bind, run_isAgg ht, Result.andThen_ok]
  unfold loadV at h
  cases hT : T.agg with
  | true =>
    simp only [hT] at h
    split at h <;> simp at h
    rename_i hle
    subst h
    have h1 := (hr.drop off).take T.size
    obtain ⟨xs, hl, hc⟩ := h1.read
    have hlen := hl.length
    simp at hlen
    have hlen' : xs.length = T.size := by omega
    refine ⟨.agg xs.toArray, ?_, by simp only [R]; exact ⟨_, rfl, by simpa using hl⟩⟩
    have := run_loadCells_list (P := P) (w := w) ⟨b, base + off, none⟩ xs (fun j x hj => by
      have := hc j x hj
      by_cases h0 : j = 0
      · subst h0; simpa [Addr.add] using this
      · simpa [Addr.add, h0] using this)
    rw [hlen'] at this
    simp [run_sizeOf ht, this]
  | false =>
    simp only [hT] at h
    obtain ⟨x, hx, hv⟩ := hr.get h
    exact ⟨x, by simp [hx], hv⟩

/-- A whole block of cells as memory. -/
theorem RL.mem {E : Env} {w : World} {b : Nat} {arr : Array Value} {ty : TypeId} {fz : Nat × Nat} (hb : w.heap[b]? = some (.cells arr ty fz)) : ∀ {cs : List V} {k : Nat}, RL E w cs (arr.toList.drop k) → RM E w cs b k
  | [], k, _ => by simp [RM]
  | c :: cs, k, h => by
    simp only [RL] at h
    obtain ⟨y, ys, he, h1, h2⟩ := h
    simp only [RM]
    have hk : arr[k]? = some y := by
      have : (arr.toList.drop k)[0]? = some y := by rw [he]; rfl
      simpa using this
    refine ⟨⟨y, ?_, h1⟩, RL.mem hb ?_⟩
    · simp [World.cell?, hb, hk]
    · have : arr.toList.drop (k + 1) = ys := by rw [← List.drop_drop, he]; rfl
      rw [this]; exact h2

/-! ### Heap objects -/
def RKV (E : Env) (w : World) : List (V × V) → List MapEntry → Prop
  | [], es => es = []
  | (k, v) :: kvs, es => ∃ e r, es = e :: r ∧ R E w k e.key ∧ R E w v e.val ∧ RKV E w kvs r

def objAt (E : Env) (w : World) : HObj → Nat → Prop
  | .cells cs, b => ∃ arr ty, w.heap[b]? = some (.cells arr ty (0, 0)) ∧ RL E w cs arr.toList
  | .map kvs, b => ∃ es clock, w.heap[b]? = some (.map es clock) ∧ RKV E w kvs es.toList

def RH (E : Env) (w : World) (M : Heap) : Prop := ∀ o h, M o = some h → ∃ b, E.ob o = some b ∧ objAt E w h b

/-! ### Equality -/
def eqFs (P : Program) (f : TypeId → V → V → Option Bool) (xs ys : List V) : List Field → Option Bool
  | [] => some true
  | fd :: fs =>
    if fd.name = "_" then eqFs P f xs ys fs else
    match ti P fd.type with
    | none => none
    | some T =>
      match loadV T xs fd.offset, loadV T ys fd.offset with
      | some a, some b =>
        match f fd.type a b, eqFs P f xs ys fs with
        | some r, some s => some (r && s)
        | _, _ => none
      | _, _ => none

def eqV (P : Program) : Nat → TypeId → V → V → Option Bool
  | 0, _, _, _ => none
  | d + 1, t, x, y =>
    match P.underlying t, x, y with
    | some .bool, .bool a, .bool b => some (a == b)
    | some (.int _), .int k a, .int k' b => if k = k' then some (a == b) else none
    | some .string, .str a, .str b => some (a == b)
    | some (.struct fs), .agg xs, .agg ys => if P.stoodInHeld t then none else eqFs P (eqV P d) xs ys fs.toList
    | some (.pointer _), .nilp, .nilp => some true
    | some (.pointer _), .nilp, .ptr _ _ | some (.pointer _), .ptr _ _, .nilp => some false
    | some (.map _ _), .nilm, .nilm => some true
    | some (.map _ _), .nilm, .map _ | some (.map _ _), .map _, .nilm => some false
    | some (.interface _), .nili, .nili => some true
    | some (.interface _), .nili, .iface _ _ | some (.interface _), .iface _ _, .nili => some false
    | some (.func _ _ _), .nilf, .nilf => some true
    | some (.func _ _ _), .nilf, .fn _ _ _ | some (.func _ _ _), .fn _ _ _, .nilf => some false
    | _, _, _ => none

theorem bytes_beq (a b : List UInt8) : ((⟨⟨a⟩⟩ : ByteArray) == ⟨⟨b⟩⟩) = (a == b) := by
  show ((⟨a⟩ : Array UInt8) == ⟨b⟩) = (a == b)
  simp

theorem eqV_fields {P : Program} {E : Env} {w : World} (m : Nat) (d : Nat) (xs ys : List V)
    (ih : ∀ (t : TypeId) (x y : V) (r : Bool) (x' y' : Value), eqV P d t x y = some r → R E w x x' → R E w y y' → (Op.equalIn (d + m) t x' y').run P w = .ok r w) :
    ∀ (fs : List Field) (r : Bool) (xa ya : Array Value), eqFs P (eqV P d) xs ys fs = some r → RL E w xs xa.toList → RL E w ys ya.toList → (Op.eqFields (d + m) xa ya fs).run P w = .ok r w
  | [], r, xa, ya, h, _, _ => by simp [eqFs] at h; subst h; simp [Op.eqFields]
  | f :: fs, r, xa, ya, h, hx, hy => by
    unfold eqFs at h
    split at h
    · rename_i hn
      rw [Op.eqFields, if_neg (by simpa using hn)]
      exact eqV_fields m d xs ys ih fs r xa ya h hx hy
    · rename_i hn
      split at h
      · simp at h
      · rename_i T hT
        split at h
        · rename_i a b ha hb
          split at h
          · rename_i r1 s hr hs
            simp at h; subst h
            obtain ⟨a', ha1, ha2⟩ := part_sound hT ha hx
            obtain ⟨b', hb1, hb2⟩ := part_sound hT hb hy
            have he := ih f.type a b r1 a' b' hr ha2 hb2
            have hrest := eqV_fields m d xs ys ih fs s xa ya hs hx hy
            rw [Op.eqFields, if_pos (by simpa using hn)]
            simp only [Sem.run_bind, ha1, hb1, he, Result.andThen_ok]
            cases r1
            · simp
            · simpa using hrest
          · simp at h
        · simp at h

theorem eqV_sound {P : Program} {E : Env} {w : World} (m : Nat) : ∀ (d : Nat) (t : TypeId) (x y : V) (r : Bool) (x' y' : Value), eqV P d t x y = some r → R E w x x' → R E w y y' → (Op.equalIn (d + m) t x' y').run P w = .ok r w := by
  intro d
  induction d with
  | zero => intro t x y r x' y' h; simp [eqV] at h
  | succ d ih =>
    intro t x y r x' y' h hx hy
    rw [show d + 1 + m = (d + m) + 1 by omega]
    unfold eqV at h
    split at h
    case h_17 => simp at h
    case h_4 fs xs ys hu =>
      simp only [R] at hx hy
      obtain ⟨xa, rfl, hxa⟩ := hx
      obtain ⟨ya, rfl, hya⟩ := hy
      split at h
      · simp at h
      · rename_i hp
        have hf : P.fieldsOf t = fs := by simp [Program.fieldsOf, hu]
        rw [run_equalIn_struct (P := P) w (d + m) t xa ya (by rw [hf]; exact hu) (by simpa using hp), hf]
        exact eqV_fields m d xs ys ih fs.toList r xa ya h hxa hya
    case h_1 a b hu => simp [R] at hx hy; subst hx; subst hy; simp at h; subst h; simp [Op.equalIn, run_underlying hu]
    case h_2 k a k' b hu => simp [R] at hx hy; subst hx; subst hy; simp at h; obtain ⟨rfl, rfl⟩ := h; simp [Op.equalIn, run_underlying hu]
    case h_3 a b hu => simp [R] at hx hy; obtain ⟨rfl, _⟩ := hx; obtain ⟨rfl, _⟩ := hy; simp at h; subst h; simp [Op.equalIn, run_underlying hu, bytes_beq]
    all_goals
      rename_i hu
      simp only [R] at hx hy
      simp at h
      subst h
      first
        | (subst hx; subst hy; simp [Op.equalIn, run_underlying hu]; done)
        | (obtain ⟨_, _, rfl⟩ := hx; subst hy; simp [Op.equalIn, run_underlying hu]; done)
        | (obtain ⟨_, _, rfl⟩ := hy; subst hx; simp [Op.equalIn, run_underlying hu]; done)
        | (obtain ⟨_, rfl, _⟩ := hx; subst hy; simp [Op.equalIn, run_underlying hu]; done)
        | (obtain ⟨_, rfl, _⟩ := hy; subst hx; simp [Op.equalIn, run_underlying hu]; done)
        | (obtain ⟨_, _, rfl, _⟩ := hx; subst hy; simp [Op.equalIn, run_underlying hu]; done)
        | (obtain ⟨_, _, rfl, _⟩ := hy; subst hx; simp [Op.equalIn, run_underlying hu]; done)
end Go.Eng
