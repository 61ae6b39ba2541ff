/- The engine, part 3: every operation that leaves memory alone. -/
import Derived.Test.YtndjoblgphalhaaE2
namespace Go.Eng
set_option linter.unusedSimpArgs false
set_option linter.unusedVariables false

def isConstO : Operand → Bool
  | .const _ => true
  | _ => false

/-- May two values be compared so (the model asks this ahead of == and !=)? -/
def eqOk (P : Program) (t : TypeId) (x y : Operand) : V → V → Bool
  | .nili, .nili => isConstO x || isConstO y
  | .agg _, .agg _ => !P.eqGuardType P.depth t
  | .any, _ | _, .any | .when _ _, _ | _, .when _ _ => false
  | _, _ => true

def bitsV (op : BinOp) (k : IntKind) (x y : Int) : Int :=
  let a := BitVec.ofInt k.bits x
  let b := BitVec.ofInt k.bits y
  match op with
  | .and => k.wrap ((a &&& b).toNat : Nat)
  | .or => k.wrap ((a ||| b).toNat : Nat)
  | .xor => k.wrap ((a ^^^ b).toNat : Nat)
  | _ => k.wrap ((a &&& ~~~b).toNat : Nat)

/-- Operators, but == and != of what is no integer and no text. -/
def binV (op : BinOp) : V → V → Option (Prop × V)
  | .int k a, .int k' b =>
    match op with
    | .add => some (k = k', .int k (k.wrap (a + b)))
    | .sub => some (k = k', .int k (k.wrap (a - b)))
    | .mul => some (k = k', .int k (k.wrap (a * b)))
    | .quo => some (k = k' ∧ b ≠ 0, .int k (k.wrap (a.tdiv b)))
    | .rem => some (k = k' ∧ b ≠ 0, .int k (a.tmod b))
    | .and | .or | .xor | .andNot => some (k = k', .int k (bitsV op k a b))
    | .eql => some (k = k', .bool (a == b))
    | .neq => some (k = k', .bool (a != b))
    | .lss => some (k = k', .bool (decide (a < b)))
    | .leq => some (k = k', .bool (decide (a ≤ b)))
    | .gtr => some (k = k', .bool (decide (a > b)))
    | .geq => some (k = k', .bool (decide (a ≥ b)))
    | _ => none
  | .str a, .str b =>
    match op with
    | .add => some (a.length + b.length ≤ maxLen, .str (a ++ b))
    | .eql => some (True, .bool (a == b))
    | .neq => some (True, .bool (!(a == b)))
    | .lss => some (True, .bool (Op.bytesLess a b))
    | .leq => some (True, .bool (Op.bytesLess a b || a == b))
    | .gtr => some (True, .bool (!(Op.bytesLess a b || a == b)))
    | .geq => some (True, .bool (!Op.bytesLess a b))
    | _ => none
  | _, _ => none

def eqlV (P : Program) (op : BinOp) (t : TypeId) (x y : Operand) (a b : V) : Option (Prop × V) :=
  match eqV P 8 t a b with
  | some r =>
    match op with
    | .eql => some (eqOk P t x y a b = true, .bool r)
    | .neq => some (eqOk P t x y a b = true, .bool (!r))
    | _ => none
  | none => none

/-- Any operator. -/
def opV (P : Program) (op : BinOp) (t : TypeId) (x y : Operand) (a b : V) : Option (Prop × V) :=
  match a, b with
  | .int _ _, _ | .str _, _ => binV op a b
  | .lref _ _ _, .nilp | .nilp, .lref _ _ _ =>
    match P.underlying t, op with
    | some (.pointer _), .eql => some (True, .bool false)
    | some (.pointer _), .neq => some (True, .bool true)
    | _, _ => none
  | .lref _ _ _, _ | _, .lref _ _ _ => none
  | _, _ => eqlV P op t x y a b

theorem toList_mk (s : List UInt8) : (⟨⟨s⟩⟩ : ByteArray).toList = s := by rw [ByteArray.toList_eq]

theorem binV_sound {P : Program} {E : Env} {w : World} {op : BinOp} {t : TypeId} {a b : V} {c : Prop} {v : V} {x y : Value} (h : binV op a b = some (c, v)) (hc : c) (hx : R E w a x) (hy : R E w b y) :
    ∃ z, (binOp op t x y).run P w = .ok z w ∧ R E w v z := by
  unfold binV at h
  split at h
  · rename_i k i k' j
    simp only [R] at hx hy
    subst hx; subst hy
    cases op <;> simp at h <;> obtain ⟨h1, rfl⟩ := h <;> rw [← h1] at hc
    all_goals first
      | (obtain ⟨hk, hz⟩ := hc; subst hk; refine ⟨_, by simp [binOp, Op.intDiv, hz]; rfl, by simp [R]⟩; done)
      | (subst hc; refine ⟨_, by simp [binOp, Op.intArith, Op.intBits, Op.intCmp]; rfl, by simp [R, bitsV]⟩; done)
  · rename_i i j
    simp only [R] at hx hy
    obtain ⟨rfl, hi⟩ := hx
    obtain ⟨rfl, hj⟩ := hy
    cases op <;> simp at h <;> obtain ⟨h1, rfl⟩ := h <;> (try rw [← h1] at hc)
    case add =>
      refine ⟨.string ((⟨⟨i⟩⟩ : ByteArray) ++ ⟨⟨j⟩⟩), ?_, ?_⟩
      · have := run_string_add_sum (P := P) (w := w) (⟨⟨i⟩⟩ : ByteArray) ⟨⟨j⟩⟩ (by simpa [ByteArray.size, maxLen] using hc)
        simpa [binOp] using this
      · simp only [R, List.length_append]
        refine ⟨?_, by omega⟩
        congr 1
    all_goals (refine ⟨_, by simp only [binOp, Op.stringOp, toList_mk]; rfl, by simp [R]⟩)
  · simp at h

/-- The kind of an abstract value, and of a value. -/
def V.tag : V → Nat
  | .bool _ => 0 | .int _ _ => 1 | .str _ => 2 | .agg _ => 3 | .tup _ => 4 | .lst _ => 5 | .nilp | .ptr _ _ | .eref _ _ => 6 | .nilm | .map _ => 7
  | .fn _ _ _ => 8 | .nilf => 9 | .iface _ _ => 10 | .nili => 11 | .any => 20 | .when _ _ => 20 | .box _ _ => 21 | .itr _ _ _ => 21 | .lref _ _ _ => 22
def vtag : Value → Nat
  | .bool _ => 0 | .int _ _ => 1 | .string _ => 2 | .agg _ => 3 | .tuple _ => 4 | .slice _ _ _ => 5 | .pointer _ => 6 | .map _ => 7
  | .func _ _ _ => 8 | .nilFunc => 9 | .iface _ _ => 10 | .nilIface => 11 | .float _ _ => 12 | .complex _ _ _ => 13 | .chan _ => 14

theorem R.tag {E : Env} {w : World} {v : V} {x : Value} (h : R E w v x) (hv : v.tag < 20) : v.tag = vtag x := by
  cases v <;> simp only [R, V.tag] at * <;> first
    | (subst h; rfl)
    | (obtain ⟨rfl, _⟩ := h; rfl)
    | (obtain ⟨_, rfl, _⟩ := h; rfl)
    | (obtain ⟨_, _, rfl, _⟩ := h; rfl)
    | (obtain ⟨_, _, rfl⟩ := h; rfl)
    | omega

theorem eqOk_tag {P : Program} {t : TypeId} {x y : Operand} {a b : V} (h : eqOk P t x y a b = true) (ha : a.tag < 21) (hb : b.tag < 21) : a.tag < 20 ∧ b.tag < 20 := by
  cases a <;> cases b <;> simp [eqOk, V.tag] at *

theorem R.not21 {E : Env} {w : World} {v : V} {x : Value} (h : R E w v x) : v.tag < 21 := by
  cases v <;> simp [R, V.tag] at *

theorem guard_ok {P : Program} {w : World} {op : BinOp} {t : TypeId} {ox oy : Operand} {x y : Value} (hop : op = .eql ∨ op = .neq)
    (h1 : x = .nilIface → y = .nilIface → (isConstO ox || isConstO oy) = true) (h2 : ∀ xs ys, x = .agg xs → y = .agg ys → P.eqGuardType P.depth t = false) :
    (eqGuard op t ox oy x y).run P w = .ok () w := by
  unfold eqGuard
  rcases hop with rfl | rfl <;> cases x <;> cases y <;> try (simp; done)
  all_goals first
    | (have := h1 rfl rfl; cases ox <;> cases oy <;> simp [isConstO] at this ⊢; done)
    | (have := h2 _ _ rfl rfl; simp [this]; done)

theorem eqlV_sound {P : Program} {E : Env} {w : World} {op : BinOp} {t : TypeId} {ox oy : Operand} {a b : V} {c : Prop} {v : V} {x y : Value} (hna : ∀ k n, a ≠ .int k n) (hns : ∀ s, a ≠ .str s) (h : eqlV P op t ox oy a b = some (c, v)) (hc : c) (hx : R E w a x) (hy : R E w b y) :
    ∃ z, (do eqGuard op t ox oy x y; binOp op t x y : Sem Value).run P w = .ok z w ∧ R E w v z := by
  unfold eqlV at h
  cases hr : eqV P 8 t a b with
  | none => simp [hr] at h
  | some r =>
  simp only [hr] at h
  have he : (Op.equal t x y).run P w = .ok r w := eqV_sound (P := P) (E := E) (w := w) 9992 8 t a b r x y hr hx hy
  have hop : (op = .eql ∧ v = .bool r ∨ op = .neq ∧ v = .bool (!r)) ∧ eqOk P t ox oy a b = true := by
    cases op <;> simp at h <;> obtain ⟨h1, rfl⟩ := h <;> rw [← h1] at hc <;> simp [hc]
  clear h
  obtain ⟨hop, hok⟩ := hop
  obtain ⟨hta, htb⟩ := eqOk_tag hok hx.not21 hy.not21
  have hax := hx.tag hta
  have hby := hy.tag htb
  have hg : (eqGuard op t ox oy x y).run P w = .ok () w := by
    refine guard_ok (hop.imp (·.1) (·.1)) (fun e1 e2 => ?_) (fun xs ys e1 e2 => ?_)
    · subst e1; subst e2
      have ha : a = .nili := by cases a <;> simp [V.tag, vtag] at hax ⊢
      have hb : b = .nili := by cases b <;> simp [V.tag, vtag] at hby ⊢
      subst ha; subst hb
      exact hok
    · subst e1; subst e2
      have ha : ∃ l, a = .agg l := by cases a <;> simp [V.tag, vtag] at hax ⊢
      have hb : ∃ l, b = .agg l := by cases b <;> simp [V.tag, vtag] at hby ⊢
      obtain ⟨l, rfl⟩ := ha
      obtain ⟨l', rfl⟩ := hb
      simpa only [eqOk, Bool.not_eq_true'] using hok
  have hxi : ∀ k n, x ≠ .int k n := by
    intro k n hxx; subst hxx
    cases a <;> simp [V.tag, vtag] at hax
    exact hna _ _ rfl
  have hxs : ∀ s, x ≠ .string s := by
    intro s hxx; subst hxx
    cases a <;> simp [V.tag, vtag] at hax
    exact hns _ rfl
  have hxf : ∀ k n, x ≠ .float k n := by
    intro k n hxx; subst hxx
    cases a <;> simp [V.tag, vtag] at hax
  have hxc : ∀ k n m, x ≠ .complex k n m := by
    intro k n m hxx; subst hxx
    cases a <;> simp [V.tag, vtag] at hax
  rcases hop with ⟨rfl, rfl⟩ | ⟨rfl, rfl⟩
  · refine ⟨.bool r, ?_, by simp [R]⟩
    have : (binOp .eql t x y).run P w = .ok (.bool r) w := by
      cases x <;> first | exact absurd rfl (hxi _ _) | exact absurd rfl (hxs _) | exact absurd rfl (hxf _ _) | exact absurd rfl (hxc _ _ _) | simp [binOp, he]
    simp [hg, this]
  · refine ⟨.bool (!r), ?_, by simp [R]⟩
    have : (binOp .neq t x y).run P w = .ok (.bool (!r)) w := by
      cases x <;> first | exact absurd rfl (hxi _ _) | exact absurd rfl (hxs _) | exact absurd rfl (hxf _ _) | exact absurd rfl (hxc _ _ _) | simp [binOp, he]
    simp [hg, this]

theorem nilAddr_sound {P : Program} {w : World} {op : BinOp} {t e : TypeId} {ox oy : Operand} {a : Option Addr} {b : Option Addr} {r : Bool} (hu : P.underlying t = some (.pointer e)) (hab : (a = none ∧ b.isSome = true) ∨ (a.isSome = true ∧ b = none))
    (hop : (op = .eql ∧ r = false) ∨ (op = .neq ∧ r = true)) :
    (do eqGuard op t ox oy (.pointer a) (.pointer b); binOp op t (.pointer a) (.pointer b) : Sem Value).run P w = .ok (.bool r) w := by
  have hg : (eqGuard op t ox oy (.pointer a) (.pointer b)).run P w = .ok () w := guard_ok (hop.imp (·.1) (·.1)) (fun e => by cases e) (fun _ _ e => by cases e)
  have hd : ∀ d, (Op.equalIn (d + 1) t (.pointer a) (.pointer b)).run P w = .ok false w := by
    intro d
    rcases hab with ⟨rfl, hb⟩ | ⟨ha, rfl⟩
    · cases b <;> simp at hb; simp [Op.equalIn, run_underlying hu]
    · cases a <;> simp at ha; simp [Op.equalIn, run_underlying hu]
  have he : (Op.equal t (.pointer a) (.pointer b)).run P w = .ok false w := hd 9999
  rcases hop with ⟨rfl, rfl⟩ | ⟨rfl, rfl⟩ <;> simp [hg, binOp, he]

theorem opV_sound {P : Program} {E : Env} {w : World} {op : BinOp} {t : TypeId} {ox oy : Operand} {a b : V} {c : Prop} {v : V} {x y : Value} (h : opV P op t ox oy a b = some (c, v)) (hc : c) (hx : RO E w a x) (hy : RO E w b y) :
    ∃ z, (do eqGuard op t ox oy x y; binOp op t x y : Sem Value).run P w = .ok z w ∧ R E w v z := by
  unfold opV at h
  split at h
  · have hyb : R E w b y := hy.toR (fun s g o e => by subst e; simp [binV] at h)
    simp only [RO] at hx
    obtain ⟨z, hz, hr⟩ := binV_sound (P := P) (t := t) h hc hx hyb
    refine ⟨z, ?_, hr⟩
    have hg : (eqGuard op t ox oy x y).run P w = .ok () w := by
      simp only [R] at hx; subst hx
      unfold eqGuard; cases op <;> simp
    simp [hg, hz]
  · have hyb : R E w b y := hy.toR (fun s g o e => by subst e; simp [binV] at h)
    simp only [RO] at hx
    obtain ⟨z, hz, hr⟩ := binV_sound (P := P) (t := t) h hc hx hyb
    refine ⟨z, ?_, hr⟩
    have hg : (eqGuard op t ox oy x y).run P w = .ok () w := by
      simp only [R] at hx; obtain ⟨rfl, _⟩ := hx
      unfold eqGuard; cases op <;> simp
    simp [hg, hz]
  · simp only [RO, R] at hx hy
    obtain ⟨b', _, rfl⟩ := hx; subst hy
    split at h <;> simp at h
    · rename_i e hu; obtain ⟨_, rfl⟩ := h; exact ⟨_, nilAddr_sound hu (.inr ⟨rfl, rfl⟩) (.inl ⟨rfl, rfl⟩), by simp [R]⟩
    · rename_i e hu; obtain ⟨_, rfl⟩ := h; exact ⟨_, nilAddr_sound hu (.inr ⟨rfl, rfl⟩) (.inr ⟨rfl, rfl⟩), by simp [R]⟩
  · simp only [RO, R] at hx hy
    obtain ⟨b', _, rfl⟩ := hy; subst hx
    split at h <;> simp at h
    · rename_i e hu; obtain ⟨_, rfl⟩ := h; exact ⟨_, nilAddr_sound hu (.inl ⟨rfl, rfl⟩) (.inl ⟨rfl, rfl⟩), by simp [R]⟩
    · rename_i e hu; obtain ⟨_, rfl⟩ := h; exact ⟨_, nilAddr_sound hu (.inl ⟨rfl, rfl⟩) (.inr ⟨rfl, rfl⟩), by simp [R]⟩
  · simp at h
  · simp at h
  · rename_i h1 h2 h3 h4 h5 h6
    exact eqlV_sound (fun k n e => h1 _ _ e) (fun s e => h2 _ e) h hc (hx.toR (fun s g o e => h3 _ _ _ e)) (hy.toR (fun s g o e => h4 _ _ _ e))
end Go.Eng
