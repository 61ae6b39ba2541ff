/- The engine, part 1: abstract values, their relation to the model's values and memory, and that it is kept as the world grows. -/
import Derived.WalkKit
namespace Go.Eng
set_option linter.unusedSimpArgs false
set_option linter.unusedVariables false

/-- Abstract values. 'lst': a slice whose elements are only read; 'eref': the address of a cell of read-only memory; 'lref': the address of a cell of a local variable (its slot, which making, the cell); 'box': in a slot, a local variable's content. -/
inductive V where
  | any
  | bool (b : Bool)
  | int (k : IntKind) (n : Int)
  | str (s : List UInt8)
  | agg (cs : List V)
  | tup (vs : List V)
  | lst (es : List (List V))
  | nilp
  | ptr (o : Nat) (off : Nat)
  | eref (cs : List V) (off : Nat)
  | lref (s g off : Nat)
  | box (g : Nat) (cs : List V)
  | itr (g : Nat) (s : List UInt8) (pos : Nat)
  | nilm
  | map (o : Nat)
  | fn (f : Fn) (first cap : List V)
  | nilf
  | iface (t : TypeId) (v : V)
  | nili
  | when (c : Bool) (v : V)
  deriving Inhabited

def V.cells : V → List V
  | .agg cs => cs
  | v => [v]

/-- Heap objects. -/
inductive HObj where
  | cells (cs : List V)
  | map (kvs : List (V × V))

abbrev Heap := Nat → Option HObj

/-- Where things lie: the block of each heap object, of each local variable; blocks that belong to others. -/
structure Env where
  ob : Nat → Option Nat
  bx : Nat → Nat → Option Nat
  ex : Nat → Prop

def Env.own (E : Env) (b : Nat) : Prop := (∃ o, E.ob o = some b) ∨ (∃ s g, E.bx s g = some b) ∨ E.ex b

mutual
/-- An abstract value stands for a value. -/
def R (E : Env) (w : World) : V → Value → Prop
  | .any, _ => True
  | .bool b, x => x = .bool b
  | .int k n, x => x = .int k n
  | .str s, x => x = .string ⟨⟨s⟩⟩ ∧ s.length ≤ maxLen
  | .agg cs, x => ∃ xs : Array Value, x = .agg xs ∧ RL E w cs xs.toList
  | .tup vs, x => ∃ xs : Array Value, x = .tuple xs ∧ RL E w vs xs.toList
  | .lst es, x => ∃ a cap, x = .slice a es.length cap ∧ es.length ≤ cap ∧ cap ≤ maxLen ∧ (es = [] ∨ ∃ b off sz, a = some ⟨b, off, none⟩ ∧ b < w.heap.size ∧ ¬ E.own b ∧ RE E w es b off sz)
  | .nilp, x => x = .pointer none
  | .ptr o off, x => ∃ b, E.ob o = some b ∧ x = .pointer (some ⟨b, off, none⟩)
  | .eref cs off, x => ∃ b base, x = .pointer (some ⟨b, base + off, none⟩) ∧ b < w.heap.size ∧ ¬ E.own b ∧ RM E w cs b base
  | .lref _ _ _, _ => False
  | .box _ _, _ => False
  | .itr _ _ _, _ => False
  | .nilm, x => x = .map none
  | .map o, x => ∃ b, E.ob o = some b ∧ x = .map (some b)
  | .fn f first cap, x => ∃ xs ys : Array Value, x = .func f xs ys ∧ RL E w first xs.toList ∧ RL E w cap ys.toList
  | .nilf, x => x = .nilFunc
  | .iface t v, x => ∃ y, x = .iface t y ∧ R E w v y
  | .nili, x => x = .nilIface
  | .when _ _, _ => False
/-- Lists of values, one by one. -/
def RL (E : Env) (w : World) : List V → List Value → Prop
  | [], xs => xs = []
  | v :: vs, xs => ∃ y ys, xs = y :: ys ∧ R E w v y ∧ RL E w vs ys
/-- Cells of memory, one behind the other. -/
def RM (E : Env) (w : World) : List V → Nat → Nat → Prop
  | [], _, _ => True
  | v :: vs, b, off => (∃ y, w.cell? ⟨b, off, none⟩ = some y ∧ R E w v y) ∧ RM E w vs b (off + 1)
/-- Elements of memory, each of so many cells. -/
def RE (E : Env) (w : World) : List (List V) → Nat → Nat → Nat → Prop
  | [], _, _, _ => True
  | e :: es, b, off, sz => e.length = sz ∧ RM E w e b off ∧ RE E w es b (off + sz) sz
end

/-- A later world, where things lie as they lay: what isn't owned has not turned. -/
structure Later (E : Env) (w : World) (E' : Env) (w' : World) : Prop where
  size : w.heap.size ≤ w'.heap.size
  ob : ∀ o b, E.ob o = some b → E'.ob o = some b
  own : ∀ b, b < w.heap.size → E'.own b → E.own b
  keep : ∀ b, b < w.heap.size → ¬ E.own b → w'.heap[b]? = w.heap[b]?

theorem Later.refl (E : Env) (w : World) : Later E w E w := ⟨Nat.le_refl _, fun _ _ h => h, fun _ _ h => h, fun _ _ _ => rfl⟩

theorem Later.trans {E E1 E2 : Env} {w w1 w2 : World} (h : Later E w E1 w1) (k : Later E1 w1 E2 w2) : Later E w E2 w2 :=
  ⟨Nat.le_trans h.size k.size, fun o b hb => k.ob o b (h.ob o b hb),
   fun b hb ho => h.own b hb (k.own b (Nat.lt_of_lt_of_le hb h.size) ho),
   fun b hb hn => (k.keep b (Nat.lt_of_lt_of_le hb h.size) (fun ho => hn (h.own b hb ho))).trans (h.keep b hb hn)⟩

theorem Later.cell {E E' : Env} {w w' : World} (h : Later E w E' w') {b off : Nat} (hb : b < w.heap.size) (hn : ¬ E.own b) : w'.cell? ⟨b, off, none⟩ = w.cell? ⟨b, off, none⟩ := by
  simp only [World.cell?, h.keep b hb hn]

mutual
theorem R.later {E E' : Env} {w w' : World} (h : Later E w E' w') : ∀ (v : V) (x : Value), R E w v x → R E' w' v x
  | .any, _, _ => by simp [R]
  | .bool b, x, hr => by simpa [R] using hr
  | .int k n, x, hr => by simpa [R] using hr
  | .str s, x, hr => by simpa [R] using hr
  | .agg cs, x, hr => by
    simp only [R] at hr ⊢
    obtain ⟨xs, rfl, hl⟩ := hr
    exact ⟨xs, rfl, RL.later h cs _ hl⟩
  | .tup cs, x, hr => by
    simp only [R] at hr ⊢
    obtain ⟨xs, rfl, hl⟩ := hr
    exact ⟨xs, rfl, RL.later h cs _ hl⟩
  | .lst es, x, hr => by
    simp only [R] at hr ⊢
    obtain ⟨a, cap, rfl, h1, h2, h3⟩ := hr
    refine ⟨a, cap, rfl, h1, h2, ?_⟩
    rcases h3 with h3 | ⟨b, off, sz, rfl, hb, hn, he⟩
    · exact .inl h3
    · exact .inr ⟨b, off, sz, rfl, Nat.lt_of_lt_of_le hb h.size, fun ho => hn (h.own b hb ho), RE.later h es b off sz hb hn he⟩
  | .nilp, x, hr => by simpa [R] using hr
  | .ptr o off, x, hr => by
    simp only [R] at hr ⊢
    obtain ⟨b, hb, rfl⟩ := hr
    exact ⟨b, h.ob o b hb, rfl⟩
  | .eref cs off, x, hr => by
    simp only [R] at hr ⊢
    obtain ⟨b, base, rfl, hb, hn, hm⟩ := hr
    exact ⟨b, base, rfl, Nat.lt_of_lt_of_le hb h.size, fun ho => hn (h.own b hb ho), RM.later h cs b base hb hn hm⟩
  | .lref _ _ _, x, hr => by simp [R] at hr
  | .box _ _, x, hr => by simp [R] at hr
  | .itr _ _ _, x, hr => by simp [R] at hr
  | .nilm, x, hr => by simpa [R] using hr
  | .map o, x, hr => by
    simp only [R] at hr ⊢
    obtain ⟨b, hb, rfl⟩ := hr
    exact ⟨b, h.ob o b hb, rfl⟩
  | .fn f a c, x, hr => by
    simp only [R] at hr ⊢
    obtain ⟨xs, ys, rfl, h1, h2⟩ := hr
    exact ⟨xs, ys, rfl, RL.later h a _ h1, RL.later h c _ h2⟩
  | .nilf, x, hr => by simpa [R] using hr
  | .iface t v, x, hr => by
    simp only [R] at hr ⊢
    obtain ⟨y, rfl, hy⟩ := hr
    exact ⟨y, rfl, R.later h v y hy⟩
  | .nili, x, hr => by simpa [R] using hr
  | .when _ _, x, hr => by simp [R] at hr
theorem RL.later {E E' : Env} {w w' : World} (h : Later E w E' w') : ∀ (vs : List V) (xs : List Value), RL E w vs xs → RL E' w' vs xs
  | [], xs, hr => by simpa [RL] using hr
  | v :: vs, xs, hr => by
    simp only [RL] at hr ⊢
    obtain ⟨y, ys, rfl, h1, h2⟩ := hr
    exact ⟨y, ys, rfl, R.later h v y h1, RL.later h vs ys h2⟩
theorem RM.later {E E' : Env} {w w' : World} (h : Later E w E' w') : ∀ (vs : List V) (b off : Nat), b < w.heap.size → ¬ E.own b → RM E w vs b off → RM E' w' vs b off
  | [], b, off, _, _, hr => by simp [RM]
  | v :: vs, b, off, hb, hn, hr => by
    simp only [RM] at hr ⊢
    obtain ⟨⟨y, hy, h1⟩, h2⟩ := hr
    exact ⟨⟨y, by rw [h.cell hb hn]; exact hy, R.later h v y h1⟩, RM.later h vs b _ hb hn h2⟩
theorem RE.later {E E' : Env} {w w' : World} (h : Later E w E' w') : ∀ (es : List (List V)) (b off sz : Nat), b < w.heap.size → ¬ E.own b → RE E w es b off sz → RE E' w' es b off sz
  | [], b, off, sz, _, _, hr => by simp [RE]
  | e :: es, b, off, sz, hb, hn, hr => by
    simp only [RE] at hr ⊢
    obtain ⟨h0, h1, h2⟩ := hr
    exact ⟨h0, RM.later h e b off hb hn h1, RE.later h es b _ sz hb hn h2⟩
end

/-! ### Lists -/
section
variable {E : Env} {w : World}

theorem RL.length : ∀ {vs : List V} {xs : List Value}, RL E w vs xs → vs.length = xs.length
  | [], xs, h => by simp [RL] at h; simp [h]
  | v :: vs, xs, h => by
    simp only [RL] at h
    obtain ⟨y, ys, rfl, _, h2⟩ := h
    simp [RL.length h2]

theorem RL.get : ∀ {vs : List V} {xs : List Value} {i : Nat} {v : V}, RL E w vs xs → vs[i]? = some v → ∃ x, xs[i]? = some x ∧ R E w v x
  | [], _, i, v, _, hi => by simp at hi
  | u :: vs, xs, 0, v, h, hi => by
    simp only [RL] at h
    obtain ⟨y, ys, rfl, h1, _⟩ := h
    simp at hi; subst hi
    exact ⟨y, rfl, h1⟩
  | u :: vs, xs, i + 1, v, h, hi => by
    simp only [RL] at h
    obtain ⟨y, ys, rfl, _, h2⟩ := h
    simp at hi
    obtain ⟨x, hx, hr⟩ := RL.get h2 hi
    exact ⟨x, by simpa using hx, hr⟩

theorem RL.append : ∀ {vs us : List V} {xs ys : List Value}, RL E w vs xs → RL E w us ys → RL E w (vs ++ us) (xs ++ ys)
  | [], us, xs, ys, h, k => by simp [RL] at h; subst h; simpa using k
  | v :: vs, us, xs, ys, h, k => by
    simp only [RL] at h
    obtain ⟨y, zs, rfl, h1, h2⟩ := h
    simp only [List.cons_append, RL]
    exact ⟨y, _, rfl, h1, RL.append h2 k⟩

theorem RL.drop : ∀ {vs : List V} {xs : List Value} (n : Nat), RL E w vs xs → RL E w (vs.drop n) (xs.drop n)
  | vs, xs, 0, h => by simpa using h
  | [], xs, n + 1, h => by simp [RL] at h; subst h; simp [RL]
  | v :: vs, xs, n + 1, h => by
    simp only [RL] at h
    obtain ⟨y, ys, rfl, _, h2⟩ := h
    simpa using RL.drop n h2

theorem RL.take : ∀ {vs : List V} {xs : List Value} (n : Nat), RL E w vs xs → RL E w (vs.take n) (xs.take n)
  | vs, xs, 0, h => by simp [RL]
  | [], xs, n + 1, h => by simp [RL] at h; subst h; simp [RL]
  | v :: vs, xs, n + 1, h => by
    simp only [RL] at h
    obtain ⟨y, ys, rfl, h1, h2⟩ := h
    simp only [List.take_succ_cons, RL]
    exact ⟨y, _, rfl, h1, RL.take n h2⟩

theorem RL.set : ∀ {vs : List V} {xs : List Value} (n : Nat) {v : V} {x : Value}, RL E w vs xs → R E w v x → RL E w (vs.set n v) (xs.set n x)
  | [], xs, n, v, x, h, _ => by simp [RL] at h; subst h; simp [RL]
  | u :: vs, xs, 0, v, x, h, hv => by
    simp only [RL] at h
    obtain ⟨y, ys, rfl, h1, h2⟩ := h
    simp only [List.set_cons_zero, RL]
    exact ⟨x, ys, rfl, hv, h2⟩
  | u :: vs, xs, n + 1, v, x, h, hv => by
    simp only [RL] at h
    obtain ⟨y, ys, rfl, h1, h2⟩ := h
    simp only [List.set_cons_succ, RL]
    exact ⟨y, _, rfl, h1, RL.set n h2 hv⟩

theorem RM.get : ∀ {vs : List V} {b off i : Nat} {v : V}, RM E w vs b off → vs[i]? = some v → ∃ x, w.cell? ⟨b, off + i, none⟩ = some x ∧ R E w v x
  | [], _, _, i, v, _, hi => by simp at hi
  | u :: vs, b, off, 0, v, h, hi => by
    simp only [RM] at h
    simp at hi; subst hi
    exact h.1
  | u :: vs, b, off, i + 1, v, h, hi => by
    simp only [RM] at h
    simp at hi
    obtain ⟨x, hx, hr⟩ := RM.get h.2 hi
    exact ⟨x, by rw [show off + (i + 1) = off + 1 + i by omega]; exact hx, hr⟩

theorem RM.drop : ∀ {vs : List V} {b off : Nat} (n : Nat), RM E w vs b off → RM E w (vs.drop n) b (off + n)
  | vs, b, off, 0, h => by simpa using h
  | [], b, off, n + 1, h => by simp [RM]
  | v :: vs, b, off, n + 1, h => by
    simp only [RM] at h
    have := RM.drop (off := off + 1) n h.2
    rw [show off + (n + 1) = off + 1 + n by omega]
    simpa using this

theorem RM.take : ∀ {vs : List V} {b off : Nat} (n : Nat), RM E w vs b off → RM E w (vs.take n) b off
  | vs, b, off, 0, h => by simp [RM]
  | [], b, off, n + 1, h => by simp [RM]
  | v :: vs, b, off, n + 1, h => by
    simp only [RM] at h
    simp only [List.take_succ_cons, RM]
    exact ⟨h.1, RM.take n h.2⟩

/-- The cells that lie there, read. -/
theorem RM.read : ∀ {vs : List V} {b off : Nat}, RM E w vs b off → ∃ xs : List Value, RL E w vs xs ∧ ∀ (j : Nat) (x : Value), xs[j]? = some x → w.cell? ⟨b, off + j, none⟩ = some x
  | [], b, off, _ => ⟨[], by simp [RL], by simp⟩
  | v :: vs, b, off, h => by
    simp only [RM] at h
    obtain ⟨⟨y, hy, h1⟩, h2⟩ := h
    obtain ⟨ys, hl, hc⟩ := RM.read h2
    refine ⟨y :: ys, by simp only [RL]; exact ⟨y, ys, rfl, h1, hl⟩, fun j x hj => ?_⟩
    cases j with
    | zero => simp at hj; subst hj; exact hy
    | succ j => rw [show off + (j + 1) = off + 1 + j by omega]; exact hc j x (by simpa using hj)

theorem RE.get : ∀ {es : List (List V)} {b off sz i : Nat} {e : List V}, RE E w es b off sz → es[i]? = some e → e.length = sz ∧ RM E w e b (off + i * sz)
  | [], _, _, _, i, e, _, hi => by simp at hi
  | u :: es, b, off, sz, 0, e, h, hi => by
    simp only [RE] at h
    simp at hi; subst hi
    exact ⟨h.1, by simpa using h.2.1⟩
  | u :: es, b, off, sz, i + 1, e, h, hi => by
    simp only [RE] at h
    simp at hi
    obtain ⟨h1, h2⟩ := RE.get h.2.2 hi
    refine ⟨h1, ?_⟩
    rw [show off + (i + 1) * sz = off + sz + i * sz by rw [Nat.succ_mul]; omega]
    exact h2

theorem RE.drop : ∀ {es : List (List V)} {b off sz : Nat} (n : Nat), RE E w es b off sz → RE E w (es.drop n) b (off + n * sz) sz
  | es, b, off, sz, 0, h => by simpa using h
  | [], b, off, sz, n + 1, h => by simp [RE]
  | e :: es, b, off, sz, n + 1, h => by
    simp only [RE] at h
    have := RE.drop n h.2.2
    rw [show off + (n + 1) * sz = off + sz + n * sz by rw [Nat.succ_mul]; omega]
    simpa using this

theorem RE.take : ∀ {es : List (List V)} {b off sz : Nat} (n : Nat), RE E w es b off sz → RE E w (es.take n) b off sz
  | es, b, off, sz, 0, h => by simp [RE]
  | [], b, off, sz, n + 1, h => by simp [RE]
  | e :: es, b, off, sz, n + 1, h => by
    simp only [RE] at h
    simp only [List.take_succ_cons, RE]
    exact ⟨h.1, h.2.1, RE.take n h.2.2⟩

/-- The cells of a value. -/
theorem R.cells : ∀ {v : V} {x : Value}, v ≠ .any → R E w v x → RL E w v.cells x.cells.toList := by
  intro v x ha h
  cases v <;> simp only [R, V.cells] at * <;> try (exact absurd rfl ha)
  case agg cs => obtain ⟨xs, rfl, hl⟩ := h; simpa [Value.cells] using hl
  case tup cs => obtain ⟨xs, rfl, hl⟩ := h; simp only [RL, Value.cells]; exact ⟨_, [], rfl, by simp only [R]; exact ⟨xs, rfl, hl⟩, rfl⟩
  case bool => subst h; simp [RL, R, Value.cells]
  case int => subst h; simp [RL, R, Value.cells]
  case str => obtain ⟨rfl, hl⟩ := h; simp [RL, R, Value.cells, hl]
  case lst es => obtain ⟨a, cap, rfl, h1⟩ := h; simp only [RL, Value.cells]; exact ⟨_, [], rfl, by simp only [R]; exact ⟨a, cap, rfl, h1⟩, rfl⟩
  case nilp => subst h; simp [RL, R, Value.cells]
  case ptr => obtain ⟨b, hb, rfl⟩ := h; simp [RL, R, Value.cells, hb]
  case eref cs off => obtain ⟨b, base, rfl, h1⟩ := h; simp only [RL, Value.cells]; exact ⟨_, [], rfl, by simp only [R]; exact ⟨b, base, rfl, h1⟩, rfl⟩
  case nilm => subst h; simp [RL, R, Value.cells]
  case map => obtain ⟨b, hb, rfl⟩ := h; simp [RL, R, Value.cells, hb]
  case fn f a c => obtain ⟨xs, ys, rfl, h1⟩ := h; simp only [RL, Value.cells]; exact ⟨_, [], rfl, by simp only [R]; exact ⟨xs, ys, rfl, h1⟩, rfl⟩
  case nilf => subst h; simp [RL, R, Value.cells]
  case iface t v => obtain ⟨y, rfl, h1⟩ := h; simp only [RL, Value.cells]; exact ⟨_, [], rfl, by simp only [R]; exact ⟨y, rfl, h1⟩, rfl⟩
  case nili => subst h; simp [RL, R, Value.cells]
end
end Go.Eng
