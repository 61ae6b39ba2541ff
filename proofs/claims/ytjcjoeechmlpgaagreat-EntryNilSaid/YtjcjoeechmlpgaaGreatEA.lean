/- The engine, part 1: abstract values, their relation to the model's values and memory, and that it is kept as the world grows. -/
import Derived.WalkKit
import Derived.Laws.StructEq
namespace Go.Eng
set_option linter.unusedSimpArgs false
set_option linter.unusedVariables false

/-- Abstract values. 'lst': a slice whose elements are only read; 'eref': the address of a cell of read-only memory; 'lref': the address of a cell of a local variable (its slot, which making, the cell); 'box': in a slot, a local variable's content. 'nils': no slice; 'emp': an empty one without room; 'sli': a slice over a heap object's cells; 'lrs': a slice over a local variable's cells. -/
inductive V where
  | any
  | bool (b : Bool)
  | int (k : IntKind) (n : Int)
  | str (s : List UInt8)
  | agg (cs : List V)
  | tup (vs : List V)
  | lst (es : List (List V))
  | nilp
  | ptr (o : Nat) (off : Nat)
  | eref (cs : List V) (off : Nat)
  | lref (s g off : Nat)
  | box (g : Nat) (cs : List V)
  | itr (g : Nat) (s : List UInt8) (pos : Nat)
  | nilm
  | map (o : Nat)
  | fn (f : Fn) (first cap : List V)
  | nilf
  | iface (t : TypeId) (v : V)
  | nili
  | when (c : Bool) (v : V)
  | nils
  | emp
  | sli (o off len cap : Nat)
  | lrs (s g off len : Nat)
  deriving Inhabited

def V.cells : V → List V
  | .agg cs => cs
  | v => [v]

mutual
/-- A nil slice is an empty one. -/
def V.soft : V → V
  | .nils => .lst []
  | .emp => .lst []
  | .agg cs => .agg (softs cs)
  | v => v
def softs : List V → List V
  | [] => []
  | v :: vs => v.soft :: softs vs
end

/-- Heap objects. -/
inductive HObj where
  | cells (cs : List V)
  | map (kvs : List (V × V))

abbrev Heap := Nat → Option HObj

/-- Where things lie: the block of each heap object, of each local variable; blocks that belong to others. -/
structure Env where
  ob : Nat → Option Nat
  bx : Nat → Nat → Option Nat
  ex : Nat → Prop

def Env.own (E : Env) (b : Nat) : Prop := (∃ o, E.ob o = some b) ∨ (∃ s g, E.bx s g = some b) ∨ E.ex b

mutual
/-- An abstract value stands for a value. -/
def R (E : Env) (w : World) : V → Value → Prop
  | .any, _ => True
  | .bool b, x => x = .bool b
  | .int k n, x => x = .int k n
  | .str s, x => x = .string ⟨⟨s⟩⟩ ∧ s.length ≤ maxLen
  | .agg cs, x => ∃ xs : Array Value, x = .agg xs ∧ RL E w cs xs.toList
  | .tup vs, x => ∃ xs : Array Value, x = .tuple xs ∧ RL E w vs xs.toList
  | .lst es, x => ∃ a cap, x = .slice a es.length cap ∧ es.length ≤ cap ∧ cap ≤ maxLen ∧ (es = [] ∨ ∃ b off sz, a = some ⟨b, off, none⟩ ∧ b < w.heap.size ∧ ¬ E.own b ∧ RE E w es b off sz)
  | .nilp, x => x = .pointer none
  | .ptr o off, x => ∃ b, E.ob o = some b ∧ x = .pointer (some ⟨b, off, none⟩)
  | .eref cs off, x => ∃ b base, x = .pointer (some ⟨b, base + off, none⟩) ∧ b < w.heap.size ∧ ¬ E.own b ∧ RM E w cs b base
  | .lref _ _ _, _ => False
  | .box _ _, _ => False
  | .itr _ _ _, _ => False
  | .nilm, x => x = .map none
  | .map o, x => ∃ b, E.ob o = some b ∧ x = .map (some b)
  | .fn f first cap, x => ∃ xs ys : Array Value, x = .func f xs ys ∧ RL E w first xs.toList ∧ RL E w cap ys.toList
  | .nilf, x => x = .nilFunc
  | .iface t v, x => ∃ y, x = .iface t y ∧ R E w v y
  | .nili, x => x = .nilIface
  | .when _ _, _ => False
  | .nils, x => x = .slice none 0 0
  | .emp, x => ∃ a, x = .slice a 0 0
  | .sli o off len cap, x => ∃ b, E.ob o = some b ∧ x = .slice (some ⟨b, off, none⟩) len cap ∧ len ≤ cap ∧ cap ≤ maxLen
  | .lrs _ _ _ _, _ => False
/-- Lists of values, one by one. -/
def RL (E : Env) (w : World) : List V → List Value → Prop
  | [], xs => xs = []
  | v :: vs, xs => ∃ y ys, xs = y :: ys ∧ R E w v y ∧ RL E w vs ys
/-- Cells of memory, one behind the other. -/
def RM (E : Env) (w : World) : List V → Nat → Nat → Prop
  | [], _, _ => True
  | v :: vs, b, off => (∃ y, w.cell? ⟨b, off, none⟩ = some y ∧ R E w v y) ∧ RM E w vs b (off + 1)
/-- Elements of memory, each of so many cells. -/
def RE (E : Env) (w : World) : List (List V) → Nat → Nat → Nat → Prop
  | [], _, _, _ => True
  | e :: es, b, off, sz => e.length = sz ∧ RM E w e b off ∧ RE E w es b (off + sz) sz
end

/-- A later world, where things lie as they lay: what isn't owned has not turned. -/
structure Later (E : Env) (w : World) (E' : Env) (w' : World) : Prop where
  size : w.heap.size ≤ w'.heap.size
  ob : ∀ o b, E.ob o = some b → E'.ob o = some b
  own : ∀ b, b < w.heap.size → E'.own b → E.own b
  keep : ∀ b, b < w.heap.size → ¬ E.own b → w'.heap[b]? = w.heap[b]?

theorem Later.refl (E : Env) (w : World) : Later E w E w := ⟨Nat.le_refl _, fun _ _ h => h, fun _ _ h => h, fun _ _ _ => rfl⟩

theorem Later.trans {E E1 E2 : Env} {w w1 w2 : World} (h : Later E w E1 w1) (k : Later E1 w1 E2 w2) : Later E w E2 w2 :=
  ⟨Nat.le_trans h.size k.size, fun o b hb => k.ob o b (h.ob o b hb),
   fun b hb ho => h.own b hb (k.own b (Nat.lt_of_lt_of_le hb h.size) ho),
   fun b hb hn => (k.keep b (Nat.lt_of_lt_of_le hb h.size) (fun ho => hn (h.own b hb ho))).trans (h.keep b hb hn)⟩

theorem Later.cell {E E' : Env} {w w' : World} (h : Later E w E' w') {b off : Nat} (hb : b < w.heap.size) (hn : ¬ E.own b) : w'.cell? ⟨b, off, none⟩ = w.cell? ⟨b, off, none⟩ := by
  simp only [World.cell?, h.keep b hb hn]

mutual
theorem R.later {E E' : Env} {w w' : World} (h : Later E w E' w') : ∀ (v : V) (x : Value), R E w v x → R E' w' v x
  | .any, _, _ => by simp [R]
  | .bool b, x, hr => by simpa [R] using hr
  | .int k n, x, hr => by simpa [R] using hr
  | .str s, x, hr => by simpa [R] using hr
  | .agg cs, x, hr => by
    simp only [R] at hr ⊢
    obtain ⟨xs, rfl, hl⟩ := hr
    exact ⟨xs, rfl, RL.later h cs _ hl⟩
  | .tup cs, x, hr => by
    simp only [R] at hr ⊢
    obtain ⟨xs, rfl, hl⟩ := hr
    exact ⟨xs, rfl, RL.later h cs _ hl⟩
  | .lst es, x, hr => by
    simp only [R] at hr ⊢
    obtain ⟨a, cap, rfl, h1, h2, h3⟩ := hr
    refine ⟨a, cap, rfl, h1, h2, ?_⟩
    rcases h3 with h3 | ⟨b, off, sz, rfl, hb, hn, he⟩
    · exact .inl h3
    · exact .inr ⟨b, off, sz, rfl, Nat.lt_of_lt_of_le hb h.size, fun ho => hn (h.own b hb ho), RE.later h es b off sz hb hn he⟩
  | .nilp, x, hr => by simpa [R] using hr
  | .ptr o off, x, hr => by
    simp only [R] at hr ⊢
    obtain ⟨b, hb, rfl⟩ := hr
    exact ⟨b, h.ob o b hb, rfl⟩
  | .eref cs off, x, hr => by
    simp only [R] at hr ⊢
    obtain ⟨b, base, rfl, hb, hn, hm⟩ := hr
    exact ⟨b, base, rfl, Nat.lt_of_lt_of_le hb h.size, fun ho => hn (h.own b hb ho), RM.later h cs b base hb hn hm⟩
  | .lref _ _ _, x, hr => by simp [R] at hr
  | .box _ _, x, hr => by simp [R] at hr
  | .itr _ _ _, x, hr => by simp [R] at hr
  | .nilm, x, hr => by simpa [R] using hr
  | .map o, x, hr => by
    simp only [R] at hr ⊢
    obtain ⟨b, hb, rfl⟩ := hr
    exact ⟨b, h.ob o b hb, rfl⟩
  | .fn f a c, x, hr => by
    simp only [R] at hr ⊢
    obtain ⟨xs, ys, rfl, h1, h2⟩ := hr
    exact ⟨xs, ys, rfl, RL.later h a _ h1, RL.later h c _ h2⟩
  | .nilf, x, hr => by simpa [R] using hr
  | .iface t v, x, hr => by
    simp only [R] at hr ⊢
    obtain ⟨y, rfl, hy⟩ := hr
    exact ⟨y, rfl, R.later h v y hy⟩
  | .nili, x, hr => by simpa [R] using hr
  | .when _ _, x, hr => by simp [R] at hr
  | .nils, x, hr => by simpa [R] using hr
  | .emp, x, hr => by simpa [R] using hr
  | .sli o off len cap, x, hr => by
    simp only [R] at hr ⊢
    obtain ⟨b, hb, rfl, h1, h2⟩ := hr
    exact ⟨b, h.ob o b hb, rfl, h1, h2⟩
  | .lrs _ _ _ _, x, hr => by simp [R] at hr
theorem RL.later {E E' : Env} {w w' : World} (h : Later E w E' w') : ∀ (vs : List V) (xs : List Value), RL E w vs xs → RL E' w' vs xs
  | [], xs, hr => by simpa [RL] using hr
  | v :: vs, xs, hr => by
    simp only [RL] at hr ⊢
    obtain ⟨y, ys, rfl, h1, h2⟩ := hr
    exact ⟨y, ys, rfl, R.later h v y h1, RL.later h vs ys h2⟩
theorem RM.later {E E' : Env} {w w' : World} (h : Later E w E' w') : ∀ (vs : List V) (b off : Nat), b < w.heap.size → ¬ E.own b → RM E w vs b off → RM E' w' vs b off
  | [], b, off, _, _, hr => by simp [RM]
  | v :: vs, b, off, hb, hn, hr => by
    simp only [RM] at hr ⊢
    obtain ⟨⟨y, hy, h1⟩, h2⟩ := hr
    exact ⟨⟨y, by rw [h.cell hb hn]; exact hy, R.later h v y h1⟩, RM.later h vs b _ hb hn h2⟩
theorem RE.later {E E' : Env} {w w' : World} (h : Later E w E' w') : ∀ (es : List (List V)) (b off sz : Nat), b < w.heap.size → ¬ E.own b → RE E w es b off sz → RE E' w' es b off sz
  | [], b, off, sz, _, _, hr => by simp [RE]
  | e :: es, b, off, sz, hb, hn, hr => by
    simp only [RE] at hr ⊢
    obtain ⟨h0, h1, h2⟩ := hr
    exact ⟨h0, RM.later h e b off hb hn h1, RE.later h es b _ sz hb hn h2⟩
end

mutual
theorem R.softR {E : Env} {w : World} : ∀ (v : V) (x : Value), R E w v x → R E w v.soft x
  | .nils, x, h => by
    simp only [R] at h; subst h
    unfold V.soft R
    exact ⟨none, 0, rfl, Nat.le_refl _, Nat.zero_le _, .inl rfl⟩
  | .emp, x, h => by
    simp only [R] at h; obtain ⟨a, rfl⟩ := h
    unfold V.soft R
    exact ⟨a, 0, rfl, Nat.le_refl _, Nat.zero_le _, .inl rfl⟩
  | .agg cs, x, h => by
    simp only [R] at h
    obtain ⟨xs, rfl, hl⟩ := h
    simp only [V.soft, R]
    exact ⟨xs, rfl, RL.softR cs _ hl⟩
  | .any, x, h => h
  | .bool _, x, h => h
  | .int _ _, x, h => h
  | .str _, x, h => h
  | .tup _, x, h => h
  | .lst _, x, h => h
  | .nilp, x, h => h
  | .ptr _ _, x, h => h
  | .eref _ _, x, h => h
  | .lref _ _ _, x, h => h
  | .box _ _, x, h => h
  | .itr _ _ _, x, h => h
  | .nilm, x, h => h
  | .map _, x, h => h
  | .fn _ _ _, x, h => h
  | .nilf, x, h => h
  | .iface _ _, x, h => h
  | .nili, x, h => h
  | .when _ _, x, h => h
  | .sli _ _ _ _, x, h => h
  | .lrs _ _ _ _, x, h => h
theorem RL.softR {E : Env} {w : World} : ∀ (vs : List V) (xs : List Value), RL E w vs xs → RL E w (softs vs) xs
  | [], xs, h => h
  | v :: vs, xs, h => by
    simp only [RL] at h
    obtain ⟨y, ys, rfl, h1, h2⟩ := h
    simp only [softs, RL]
    exact ⟨y, ys, rfl, R.softR v y h1, RL.softR vs ys h2⟩
end

/-! ### Lists -/
section
variable {E : Env} {w : World}

theorem RL.length : ∀ {vs : List V} {xs : List Value}, RL E w vs xs → vs.length = xs.length
  | [], xs, h => by simp [RL] at h; simp [h]
  | v :: vs, xs, h => by
    simp only [RL] at h
    obtain ⟨y, ys, rfl, _, h2⟩ := h
    simp [RL.length h2]

theorem RL.get : ∀ {vs : List V} {xs : List Value} {i : Nat} {v : V}, RL E w vs xs → vs[i]? = some v → ∃ x, xs[i]? = some x ∧ R E w v x
  | [], _, i, v, _, hi => by simp at hi
  | u :: vs, xs, 0, v, h, hi => by
    simp only [RL] at h
    obtain ⟨y, ys, rfl, h1, _⟩ := h
    simp at hi; subst hi
    exact ⟨y, rfl, h1⟩
  | u :: vs, xs, i + 1, v, h, hi => by
    simp only [RL] at h
    obtain ⟨y, ys, rfl, _, h2⟩ := h
    simp at hi
    obtain ⟨x, hx, hr⟩ := RL.get h2 hi
    exact ⟨x, by simpa using hx, hr⟩

theorem RL.append : ∀ {vs us : List V} {xs ys : List Value}, RL E w vs xs → RL E w us ys → RL E w (vs ++ us) (xs ++ ys)
  | [], us, xs, ys, h, k => by simp [RL] at h; subst h; simpa using k
  | v :: vs, us, xs, ys, h, k => by
    simp only [RL] at h
    obtain ⟨y, zs, rfl, h1, h2⟩ := h
    simp only [List.cons_append, RL]
    exact ⟨y, _, rfl, h1, RL.append h2 k⟩

theorem RL.drop : ∀ {vs : List V} {xs : List Value} (n : Nat), RL E w vs xs → RL E w (vs.drop n) (xs.drop n)
  | vs, xs, 0, h => by simpa using h
  | [], xs, n + 1, h => by simp [RL] at h; subst h; simp [RL]
  | v :: vs, xs, n + 1, h => by
    simp only [RL] at h
    obtain ⟨y, ys, rfl, _, h2⟩ := h
    simpa using RL.drop n h2

theorem RL.take : ∀ {vs : List V} {xs : List Value} (n : Nat), RL E w vs xs → RL E w (vs.take n) (xs.take n)
  | vs, xs, 0, h => by simp [RL]
  | [], xs, n + 1, h => by simp [RL] at h; subst h; simp [RL]
  | v :: vs, xs, n + 1, h => by
    simp only [RL] at h
    obtain ⟨y, ys, rfl, h1, h2⟩ := h
    simp only [List.take_succ_cons, RL]
    exact ⟨y, _, rfl, h1, RL.take n h2⟩

theorem RL.set : ∀ {vs : List V} {xs : List Value} (n : Nat) {v : V} {x : Value}, RL E w vs xs → R E w v x → RL E w (vs.set n v) (xs.set n x)
  | [], xs, n, v, x, h, _ => by simp [RL] at h; subst h; simp [RL]
  | u :: vs, xs, 0, v, x, h, hv => by
    simp only [RL] at h
    obtain ⟨y, ys, rfl, h1, h2⟩ := h
    simp only [List.set_cons_zero, RL]
    exact ⟨x, ys, rfl, hv, h2⟩
  | u :: vs, xs, n + 1, v, x, h, hv => by
    simp only [RL] at h
    obtain ⟨y, ys, rfl, h1, h2⟩ := h
    simp only [List.set_cons_succ, RL]
    exact ⟨y, _, rfl, h1, RL.set n h2 hv⟩

theorem RM.get : ∀ {vs : List V} {b off i : Nat} {v : V}, RM E w vs b off → vs[i]? = some v → ∃ x, w.cell? ⟨b, off + i, none⟩ = some x ∧ R E w v x
  | [], _, _, i, v, _, hi => by simp at hi
  | u :: vs, b, off, 0, v, h, hi => by
    simp only [RM] at h
    simp at hi; subst hi
    exact h.1
  | u :: vs, b, off, i + 1, v, h, hi => by
    simp only [RM] at h
    simp at hi
    obtain ⟨x, hx, hr⟩ := RM.get h.2 hi
    exact ⟨x, by rw [show off + (i + 1) = off + 1 + i by omega]; exact hx, hr⟩

theorem RM.drop : ∀ {vs : List V} {b off : Nat} (n : Nat), RM E w vs b off → RM E w (vs.drop n) b (off + n)
  | vs, b, off, 0, h => by simpa using h
  | [], b, off, n + 1, h => by simp [RM]
  | v :: vs, b, off, n + 1, h => by
    simp only [RM] at h
    have := RM.drop (off := off + 1) n h.2
    rw [show off + (n + 1) = off + 1 + n by omega]
    simpa using this

theorem RM.take : ∀ {vs : List V} {b off : Nat} (n : Nat), RM E w vs b off → RM E w (vs.take n) b off
  | vs, b, off, 0, h => by simp [RM]
  | [], b, off, n + 1, h => by simp [RM]
  | v :: vs, b, off, n + 1, h => by
    simp only [RM] at h
    simp only [List.take_succ_cons, RM]
    exact ⟨h.1, RM.take n h.2⟩

/-- The cells that lie there, read. -/
theorem RM.read : ∀ {vs : List V} {b off : Nat}, RM E w vs b off → ∃ xs : List Value, RL E w vs xs ∧ ∀ (j : Nat) (x : Value), xs[j]? = some x → w.cell? ⟨b, off + j, none⟩ = some x
  | [], b, off, _ => ⟨[], by simp [RL], by simp⟩
  | v :: vs, b, off, h => by
    simp only [RM] at h
    obtain ⟨⟨y, hy, h1⟩, h2⟩ := h
    obtain ⟨ys, hl, hc⟩ := RM.read h2
    refine ⟨y :: ys, by simp only [RL]; exact ⟨y, ys, rfl, h1, hl⟩, fun j x hj => ?_⟩
    cases j with
    | zero => simp at hj; subst hj; exact hy
    | succ j => rw [show off + (j + 1) = off + 1 + j by omega]; exact hc j x (by simpa using hj)

theorem RE.get : ∀ {es : List (List V)} {b off sz i : Nat} {e : List V}, RE E w es b off sz → es[i]? = some e → e.length = sz ∧ RM E w e b (off + i * sz)
  | [], _, _, _, i, e, _, hi => by simp at hi
  | u :: es, b, off, sz, 0, e, h, hi => by
    simp only [RE] at h
    simp at hi; subst hi
    exact ⟨h.1, by simpa using h.2.1⟩
  | u :: es, b, off, sz, i + 1, e, h, hi => by
    simp only [RE] at h
    simp at hi
    obtain ⟨h1, h2⟩ := RE.get h.2.2 hi
    refine ⟨h1, ?_⟩
    rw [show off + (i + 1) * sz = off + sz + i * sz by rw [Nat.succ_mul]; omega]
    exact h2

theorem RE.drop : ∀ {es : List (List V)} {b off sz : Nat} (n : Nat), RE E w es b off sz → RE E w (es.drop n) b (off + n * sz) sz
  | es, b, off, sz, 0, h => by simpa using h
  | [], b, off, sz, n + 1, h => by simp [RE]
  | e :: es, b, off, sz, n + 1, h => by
    simp only [RE] at h
    have := RE.drop n h.2.2
    rw [show off + (n + 1) * sz = off + sz + n * sz by rw [Nat.succ_mul]; omega]
    simpa using this

theorem RE.take : ∀ {es : List (List V)} {b off sz : Nat} (n : Nat), RE E w es b off sz → RE E w (es.take n) b off sz
  | es, b, off, sz, 0, h => by simp [RE]
  | [], b, off, sz, n + 1, h => by simp [RE]
  | e :: es, b, off, sz, n + 1, h => by
    simp only [RE] at h
    simp only [List.take_succ_cons, RE]
    exact ⟨h.1, h.2.1, RE.take n h.2.2⟩

/-- The cells of a value. -/
theorem R.cells : ∀ {v : V} {x : Value}, v ≠ .any → R E w v x → RL E w v.cells x.cells.toList := by
  intro v x ha h
  cases v <;> simp only [R, V.cells] at * <;> try (exact absurd rfl ha)
  case agg cs => obtain ⟨xs, rfl, hl⟩ := h; simpa [Value.cells] using hl
  case tup cs => obtain ⟨xs, rfl, hl⟩ := h; simp only [RL, Value.cells]; exact ⟨_, [], rfl, by simp only [R]; exact ⟨xs, rfl, hl⟩, rfl⟩
  case bool => subst h; simp [RL, R, Value.cells]
  case int => subst h; simp [RL, R, Value.cells]
  case str => obtain ⟨rfl, hl⟩ := h; simp [RL, R, Value.cells, hl]
  case lst es => obtain ⟨a, cap, rfl, h1⟩ := h; simp only [RL, Value.cells]; exact ⟨_, [], rfl, by simp only [R]; exact ⟨a, cap, rfl, h1⟩, rfl⟩
  case nilp => subst h; simp [RL, R, Value.cells]
  case ptr => obtain ⟨b, hb, rfl⟩ := h; simp [RL, R, Value.cells, hb]
  case eref cs off => obtain ⟨b, base, rfl, h1⟩ := h; simp only [RL, Value.cells]; exact ⟨_, [], rfl, by simp only [R]; exact ⟨b, base, rfl, h1⟩, rfl⟩
  case nilm => subst h; simp [RL, R, Value.cells]
  case map => obtain ⟨b, hb, rfl⟩ := h; simp [RL, R, Value.cells, hb]
  case fn f a c => obtain ⟨xs, ys, rfl, h1⟩ := h; simp only [RL, Value.cells]; exact ⟨_, [], rfl, by simp only [R]; exact ⟨xs, ys, rfl, h1⟩, rfl⟩
  case nilf => subst h; simp [RL, R, Value.cells]
  case iface t v => obtain ⟨y, rfl, h1⟩ := h; simp only [RL, Value.cells]; exact ⟨_, [], rfl, by simp only [R]; exact ⟨y, rfl, h1⟩, rfl⟩
  case nili => subst h; simp [RL, R, Value.cells]
  case nils => subst h; simp [RL, R, Value.cells]
  case emp => obtain ⟨a, rfl⟩ := h; simp only [RL, Value.cells]; exact ⟨_, [], rfl, by simp only [R]; exact ⟨a, rfl⟩, rfl⟩
  case sli o off len cap => obtain ⟨b, hb, rfl, h1⟩ := h; simp only [RL, Value.cells]; exact ⟨_, [], rfl, by simp only [R]; exact ⟨b, hb, rfl, h1⟩, rfl⟩
end
end Go.Eng

/- The engine, part 2: operations that leave memory alone, evaluated on abstract values; that the model does the same. -/
namespace Go.Eng
set_option linter.unusedSimpArgs false
set_option linter.unusedVariables false

/-! ### Types -/
structure TI where
  desc : TypeDesc
  size : Nat
  agg : Bool

def isAggD : TypeDesc → Bool
  | .struct _ | .array _ _ => true
  | _ => false

def ti (P : Program) (t : TypeId) : Option TI :=
  match P.underlying t, P.info? t with
  | some d, some i => some ⟨d, i.size, isAggD d⟩
  | _, _ => none

theorem ti_und {P : Program} {t : TypeId} {T : TI} (h : ti P t = some T) : P.underlying t = some T.desc := by
  unfold ti at h; split at h <;> simp_all; subst h; rfl
theorem ti_info {P : Program} {t : TypeId} {T : TI} (h : ti P t = some T) : ∃ i, P.info? t = some i ∧ i.size = T.size := by
  unfold ti at h; split at h <;> simp_all; subst h; rfl
theorem ti_agg {P : Program} {t : TypeId} {T : TI} (h : ti P t = some T) : T.agg = isAggD T.desc := by
  unfold ti at h; split at h <;> simp_all; subst h; rfl

theorem run_sizeOf {P : Program} {w : World} {t : TypeId} {T : TI} (h : ti P t = some T) : (sizeOf t).run P w = .ok T.size w := by
  obtain ⟨i, hi, hs⟩ := ti_info h
  simp [sizeOf, typeInfo, hi, hs]
theorem run_isAgg {P : Program} {w : World} {t : TypeId} {T : TI} (h : ti P t = some T) : (isAgg t).run P w = .ok T.agg w := by
  simp only [isAgg, Sem.run_bind, run_underlying (ti_und h), Result.andThen_ok]
  rw [ti_agg h]
  cases T.desc <;> simp [isAggD]

/-! ### Constants and operands -/
def constV : Value → Option V
  | .bool b => some (.bool b)
  | .int k n => some (.int k n)
  | .string s => if s.data.toList.length ≤ maxLen then some (.str s.data.toList) else none
  | .pointer none => some .nilp
  | .slice none 0 0 => some .nils
  | .map none => some .nilm
  | .nilFunc => some .nilf
  | .nilIface => some .nili
  | .func f first cap => if first.isEmpty && cap.isEmpty then some (.fn f [] []) else none
  | _ => none

theorem constV_sound {E : Env} {w : World} {x : Value} {v : V} (h : constV x = some v) : R E w v x := by
  unfold constV at h
  split at h <;> simp at h
  case h_1 => subst h; simp [R]
  case h_2 => subst h; simp [R]
  case h_3 => obtain ⟨h1, rfl⟩ := h; simpa [R] using h1
  case h_4 => subst h; simp [R]
  case h_5 => subst h; simp [R]
  case h_6 => subst h; simp [R]
  case h_7 => subst h; simp [R]
  case h_8 => subst h; simp [R]
  case h_9 => obtain ⟨⟨h1, h2⟩, rfl⟩ := h; subst h1; subst h2; simp only [R]; exact ⟨#[], #[], rfl, by simp [RL], by simp [RL]⟩

/-- What is read of a slot, and under which condition. -/
def slotV (t : Nat) : V → Option (Prop × V)
  | .box g _ => some (True, .lref t g 0)
  | .itr _ _ _ => none
  | .when c v => match slotV t v with
    | some (d, u) => some (c = true ∧ d, u)
    | none => none
  | v => some (True, v)

def opv (fr : Nat → V) : Operand → Option (Prop × V)
  | .tmp t => slotV t (fr t)
  | .const v => match constV v with
    | some u => some (True, u)
    | none => none
  | .func f => some (True, .fn (.func f) [] [])
  | .global _ => none

/-- What an operand stands for: a value, or the address of a local variable, or a slice over one. -/
def RO (E : Env) (w : World) : V → Value → Prop
  | .lref s g off, x => ∃ b, E.bx s g = some b ∧ x = .pointer (some ⟨b, off, none⟩)
  | .lrs s g off len, x => ∃ b, E.bx s g = some b ∧ x = .slice (some ⟨b, off, none⟩) len len ∧ len ≤ maxLen
  | v, x => R E w v x

/-- What stands in a slot. -/
def RS (E : Env) (w : World) (t : Nat) : V → Value → Prop
  | .box g cs, x => ∃ b arr ty, E.bx t g = some b ∧ x = .pointer (some ⟨b, 0, none⟩) ∧ w.heap[b]? = some (.cells arr ty (0, 0)) ∧ RL E w cs arr.toList
  | .itr g s pos, x => ∃ b, E.bx t g = some b ∧ x = .pointer (some ⟨b, 0, none⟩) ∧ w.heap[b]? = some (.stringIter ⟨⟨s⟩⟩ pos) ∧ s.length ≤ maxLen
  | .lref s g off, x => ∃ b, E.bx s g = some b ∧ x = .pointer (some ⟨b, off, none⟩)
  | .lrs s g off len, x => ∃ b, E.bx s g = some b ∧ x = .slice (some ⟨b, off, none⟩) len len ∧ len ≤ maxLen
  | .when c v, x => (c = true → RS E w t v x) ∧ (c = false → x = undef)
  | v, x => R E w v x

theorem slotV_sound {E : Env} {w : World} {t : Nat} : ∀ {v : V} {x : Value} {c : Prop} {u : V}, slotV t v = some (c, u) → c → RS E w t v x → RO E w u x
  | .box g cs, x, c, u, h, hc, hr => by
    simp [slotV] at h; obtain ⟨_, rfl⟩ := h
    simp only [RS] at hr
    obtain ⟨b, arr, ty, h1, rfl, _⟩ := hr
    simp only [RO]; exact ⟨b, h1, rfl⟩
  | .itr _ _ _, x, c, u, h, hc, hr => by simp [slotV] at h
  | .when d v, x, c, u, h, hc, hr => by
    simp only [slotV] at h
    split at h
    · rename_i e u' hv
      simp at h; obtain ⟨h1, rfl⟩ := h
      rw [← h1] at hc
      simp only [RS] at hr
      exact slotV_sound hv hc.2 (hr.1 hc.1)
    · simp at h
  | .any, x, c, u, h, hc, hr => by simp [slotV] at h; obtain ⟨_, rfl⟩ := h; simpa only [RS, RO] using hr
  | .bool _, x, c, u, h, hc, hr => by simp [slotV] at h; obtain ⟨_, rfl⟩ := h; simpa only [RS, RO] using hr
  | .int _ _, x, c, u, h, hc, hr => by simp [slotV] at h; obtain ⟨_, rfl⟩ := h; simpa only [RS, RO] using hr
  | .str _, x, c, u, h, hc, hr => by simp [slotV] at h; obtain ⟨_, rfl⟩ := h; simpa only [RS, RO] using hr
  | .agg _, x, c, u, h, hc, hr => by simp [slotV] at h; obtain ⟨_, rfl⟩ := h; simpa only [RS, RO] using hr
  | .tup _, x, c, u, h, hc, hr => by simp [slotV] at h; obtain ⟨_, rfl⟩ := h; simpa only [RS, RO] using hr
  | .lst _, x, c, u, h, hc, hr => by simp [slotV] at h; obtain ⟨_, rfl⟩ := h; simpa only [RS, RO] using hr
  | .nilp, x, c, u, h, hc, hr => by simp [slotV] at h; obtain ⟨_, rfl⟩ := h; simpa only [RS, RO] using hr
  | .ptr _ _, x, c, u, h, hc, hr => by simp [slotV] at h; obtain ⟨_, rfl⟩ := h; simpa only [RS, RO] using hr
  | .eref _ _, x, c, u, h, hc, hr => by simp [slotV] at h; obtain ⟨_, rfl⟩ := h; simpa only [RS, RO] using hr
  | .lref _ _ _, x, c, u, h, hc, hr => by simp [slotV] at h; obtain ⟨_, rfl⟩ := h; simpa only [RS, RO] using hr
  | .nilm, x, c, u, h, hc, hr => by simp [slotV] at h; obtain ⟨_, rfl⟩ := h; simpa only [RS, RO] using hr
  | .map _, x, c, u, h, hc, hr => by simp [slotV] at h; obtain ⟨_, rfl⟩ := h; simpa only [RS, RO] using hr
  | .fn _ _ _, x, c, u, h, hc, hr => by simp [slotV] at h; obtain ⟨_, rfl⟩ := h; simpa only [RS, RO] using hr
  | .nilf, x, c, u, h, hc, hr => by simp [slotV] at h; obtain ⟨_, rfl⟩ := h; simpa only [RS, RO] using hr
  | .iface _ _, x, c, u, h, hc, hr => by simp [slotV] at h; obtain ⟨_, rfl⟩ := h; simpa only [RS, RO] using hr
  | .nili, x, c, u, h, hc, hr => by simp [slotV] at h; obtain ⟨_, rfl⟩ := h; simpa only [RS, RO] using hr
  | .emp, x, c, u, h, hc, hr => by simp [slotV] at h; obtain ⟨_, rfl⟩ := h; simpa only [RS, RO] using hr
  | .nils, x, c, u, h, hc, hr => by simp [slotV] at h; obtain ⟨_, rfl⟩ := h; simpa only [RS, RO] using hr
  | .sli _ _ _ _, x, c, u, h, hc, hr => by simp [slotV] at h; obtain ⟨_, rfl⟩ := h; simpa only [RS, RO] using hr
  | .lrs _ _ _ _, x, c, u, h, hc, hr => by simp [slotV] at h; obtain ⟨_, rfl⟩ := h; simpa only [RS, RO] using hr

/-- A frame. -/
def FR (E : Env) (w : World) (fr : Nat → V) (tmps : Array Value) : Prop := ∀ t, RS E w t (fr t) (tmps.getD t undef)

theorem RO.of_R {E : Env} {w : World} {v : V} {x : Value} (h : R E w v x) : RO E w v x := by
  cases v <;> first | exact h | (simp [R] at h)

theorem RO.of_const {E : Env} {w : World} {v : V} {x : Value} (h : constV x = some v) : RO E w v x := RO.of_R (constV_sound h)

/-- Does it lead into a local variable? -/
def V.isL : V → Bool
  | .lref _ _ _ | .lrs _ _ _ _ => true
  | _ => false

theorem RO.toR {E : Env} {w : World} {v : V} {x : Value} (h : RO E w v x) (hv : v.isL = false) : R E w v x := by
  cases v <;> first | exact h | cases hv

theorem RS.of_RO {E : Env} {w : World} {t : Nat} {v : V} {x : Value} (h : RO E w v x) : RS E w t v x := by
  cases v <;> first | exact h | (simp [RO, R] at h; done)

theorem opv_sound {E : Env} {w : World} {fr : Nat → V} {a : Act} {x : Operand} {c : Prop} {v : V} (h : opv fr x = some (c, v)) (hc : c) (hf : FR E w fr a.tmps) : RO E w v (a.eval x) := by
  cases x with
  | tmp t => exact slotV_sound h hc (hf t)
  | const y =>
    simp only [opv] at h
    split at h <;> simp at h
    rename_i u hu
    obtain ⟨_, rfl⟩ := h
    exact RO.of_const hu
  | global g => simp [opv] at h
  | func f => simp [opv] at h; obtain ⟨_, rfl⟩ := h; simp only [RO, R, Act.eval]; exact ⟨#[], #[], rfl, by simp [RL], by simp [RL]⟩

/-! ### Parts -/
def loadV (T : TI) (cs : List V) (off : Nat) : Option V :=
  match T.agg with
  | true => if off + T.size ≤ cs.length then some (.agg ((cs.drop off).take T.size)) else none
  | false => cs[off]?

theorem part_sound {P : Program} {E : Env} {w : World} {t : TypeId} {T : TI} {cs : List V} {xs : Array Value} {off : Nat} {v : V} (ht : ti P t = some T) (h : loadV T cs off = some v) (hr : RL E w cs xs.toList) :
    ∃ x, (part t xs off).run P w = .ok x w ∧ R E w v x := by
  simp only [part, Sem.run_bind, run_isAgg ht, Result.andThen_ok]
  unfold loadV at h
  cases hT : T.agg with
  | true =>
    simp only [hT] at h
    split at h <;> simp at h
    subst h
    refine ⟨.agg (xs.extract off (off + T.size)), by simp [run_sizeOf ht], ?_⟩
    simp only [R]
    refine ⟨_, rfl, ?_⟩
    have := (hr.drop off).take T.size
    simpa [Array.toList_extract, List.extract_eq_drop_take'] using this
  | false =>
    simp only [hT] at h
    obtain ⟨x, hx, hv⟩ := hr.get h
    refine ⟨x, ?_, hv⟩
    have : xs[off]? = some x := by simpa using hx
    simp [this]

/-- Reading a variable whose cells lie in memory. -/
theorem loadVar_sound {P : Program} {E : Env} {w : World} {t : TypeId} {T : TI} {cs : List V} {off b base : Nat} {v : V} (ht : ti P t = some T) (h : loadV T cs off = some v) (hr : RM E w cs b base) :
    ∃ x, (loadVar t ⟨b, base + off, none⟩).run P w = .ok x w ∧ R E w v x := by
  simp only [loadVar, Sem.run_bind, run_isAgg ht, Result.andThen_ok]
  unfold loadV at h
  cases hT : T.agg with
  | true =>
    simp only [hT] at h
    split at h <;> simp at h
    rename_i hle
    subst h
    have h1 := (hr.drop off).take T.size
    obtain ⟨xs, hl, hc⟩ := h1.read
    have hlen := hl.length
    simp at hlen
    have hlen' : xs.length = T.size := by omega
    refine ⟨.agg xs.toArray, ?_, by simp only [R]; exact ⟨_, rfl, by simpa using hl⟩⟩
    have := run_loadCells_list (P := P) (w := w) ⟨b, base + off, none⟩ xs (fun j x hj => by
      have := hc j x hj
      by_cases h0 : j = 0
      · subst h0; simpa [Addr.add] using this
      · simpa [Addr.add, h0] using this)
    rw [hlen'] at this
    simp [run_sizeOf ht, this]
  | false =>
    simp only [hT] at h
    obtain ⟨x, hx, hv⟩ := hr.get h
    exact ⟨x, by simp [hx], hv⟩

/-- A whole block of cells as memory. -/
theorem RL.mem {E : Env} {w : World} {b : Nat} {arr : Array Value} {ty : TypeId} {fz : Nat × Nat} (hb : w.heap[b]? = some (.cells arr ty fz)) : ∀ {cs : List V} {k : Nat}, RL E w cs (arr.toList.drop k) → RM E w cs b k
  | [], k, _ => by simp [RM]
  | c :: cs, k, h => by
    simp only [RL] at h
    obtain ⟨y, ys, he, h1, h2⟩ := h
    simp only [RM]
    have hk : arr[k]? = some y := by
      have : (arr.toList.drop k)[0]? = some y := by rw [he]; rfl
      simpa using this
    refine ⟨⟨y, ?_, h1⟩, RL.mem hb ?_⟩
    · simp [World.cell?, hb, hk]
    · have : arr.toList.drop (k + 1) = ys := by rw [← List.drop_drop, he]; rfl
      rw [this]; exact h2

/-! ### Heap objects -/
def RKV (E : Env) (w : World) : List (V × V) → List MapEntry → Prop
  | [], es => es = []
  | (k, v) :: kvs, es => ∃ e r, es = e :: r ∧ R E w k e.key ∧ R E w v e.val ∧ RKV E w kvs r

/-- The entries' stamps: each below the clock, no two alike. -/
def Born (es : List MapEntry) (clock : Nat) : Prop := (∀ x ∈ es, x.born < clock) ∧ (es.map (·.born)).Nodup

def objAt (E : Env) (w : World) : HObj → Nat → Prop
  | .cells cs, b => ∃ arr ty, w.heap[b]? = some (.cells arr ty (0, 0)) ∧ RL E w cs arr.toList
  | .map kvs, b => ∃ es clock, w.heap[b]? = some (.map es clock) ∧ RKV E w kvs es.toList ∧ Born es.toList clock

def RH (E : Env) (w : World) (M : Heap) : Prop := ∀ o h, M o = some h → ∃ b, E.ob o = some b ∧ objAt E w h b

/-! ### Equality -/
def eqFs (P : Program) (f : TypeId → V → V → Option Bool) (xs ys : List V) : List Field → Option Bool
  | [] => some true
  | fd :: fs =>
    if fd.name = "_" then eqFs P f xs ys fs else
    match ti P fd.type with
    | none => none
    | some T =>
      match loadV T xs fd.offset, loadV T ys fd.offset with
      | some a, some b =>
        match f fd.type a b, eqFs P f xs ys fs with
        | some r, some s => some (r && s)
        | _, _ => none
      | _, _ => none

def eqV (P : Program) : Nat → TypeId → V → V → Option Bool
  | 0, _, _, _ => none
  | d + 1, t, x, y =>
    match P.underlying t, x, y with
    | some .bool, .bool a, .bool b => some (a == b)
    | some (.int _), .int k a, .int k' b => if k = k' then some (a == b) else none
    | some .string, .str a, .str b => some (a == b)
    | some (.struct fs), .agg xs, .agg ys => if P.stoodInHeld t then none else eqFs P (eqV P d) xs ys fs.toList
    | some (.pointer _), .nilp, .nilp => some true
    | some (.pointer _), .nilp, .ptr _ _ | some (.pointer _), .ptr _ _, .nilp => some false
    | some (.map _ _), .nilm, .nilm => some true
    | some (.map _ _), .nilm, .map _ | some (.map _ _), .map _, .nilm => some false
    | some (.interface _), .nili, .nili => some true
    | some (.interface _), .nili, .iface _ _ | some (.interface _), .iface _ _, .nili => some false
    | some (.func _ _ _), .nilf, .nilf => some true
    | some (.func _ _ _), .nilf, .fn _ _ _ | some (.func _ _ _), .fn _ _ _, .nilf => some false
    | some (.slice _), .nils, .nils => some true
    | some (.slice _), .nils, .sli _ _ _ _ | some (.slice _), .sli _ _ _ _, .nils => some false
    | _, _, _ => none

theorem bytes_beq (a b : List UInt8) : ((⟨⟨a⟩⟩ : ByteArray) == ⟨⟨b⟩⟩) = (a == b) := by
  show ((⟨a⟩ : Array UInt8) == ⟨b⟩) = (a == b)
  simp

theorem eqV_fields {P : Program} {E : Env} {w : World} (m : Nat) (d : Nat) (xs ys : List V)
    (ih : ∀ (t : TypeId) (x y : V) (r : Bool) (x' y' : Value), eqV P d t x y = some r → R E w x x' → R E w y y' → (Op.equalIn (d + m) t x' y').run P w = .ok r w) :
    ∀ (fs : List Field) (r : Bool) (xa ya : Array Value), eqFs P (eqV P d) xs ys fs = some r → RL E w xs xa.toList → RL E w ys ya.toList → (Op.eqFields (d + m) xa ya fs).run P w = .ok r w
  | [], r, xa, ya, h, _, _ => by simp [eqFs] at h; subst h; simp [Op.eqFields]
  | f :: fs, r, xa, ya, h, hx, hy => by
    unfold eqFs at h
    split at h
    · rename_i hn
      rw [Op.eqFields, if_neg (by simpa using hn)]
      exact eqV_fields m d xs ys ih fs r xa ya h hx hy
    · rename_i hn
      split at h
      · simp at h
      · rename_i T hT
        split at h
        · rename_i a b ha hb
          split at h
          · rename_i r1 s hr hs
            simp at h; subst h
            obtain ⟨a', ha1, ha2⟩ := part_sound hT ha hx
            obtain ⟨b', hb1, hb2⟩ := part_sound hT hb hy
            have he := ih f.type a b r1 a' b' hr ha2 hb2
            have hrest := eqV_fields m d xs ys ih fs s xa ya hs hx hy
            rw [Op.eqFields, if_pos (by simpa using hn)]
            simp only [Sem.run_bind, ha1, hb1, he, Result.andThen_ok]
            cases r1
            · simp
            · simpa using hrest
          · simp at h
        · simp at h

theorem eqV_sound {P : Program} {E : Env} {w : World} (m : Nat) : ∀ (d : Nat) (t : TypeId) (x y : V) (r : Bool) (x' y' : Value), eqV P d t x y = some r → R E w x x' → R E w y y' → (Op.equalIn (d + m) t x' y').run P w = .ok r w := by
  intro d
  induction d with
  | zero => intro t x y r x' y' h; simp [eqV] at h
  | succ d ih =>
    intro t x y r x' y' h hx hy
    rw [show d + 1 + m = (d + m) + 1 by omega]
    unfold eqV at h
    split at h
    case h_20 => simp at h
    case h_4 fs xs ys hu =>
      simp only [R] at hx hy
      obtain ⟨xa, rfl, hxa⟩ := hx
      obtain ⟨ya, rfl, hya⟩ := hy
      split at h
      · simp at h
      · rename_i hp
        have hf : P.fieldsOf t = fs := by simp [Program.fieldsOf, hu]
        rw [run_equalIn_struct (P := P) w (d + m) t xa ya (by rw [hf]; exact hu) (by simpa using hp), hf]
        exact eqV_fields m d xs ys ih fs.toList r xa ya h hxa hya
    case h_1 a b hu => simp [R] at hx hy; subst hx; subst hy; simp at h; subst h; simp [Op.equalIn, run_underlying hu]
    case h_2 k a k' b hu => simp [R] at hx hy; subst hx; subst hy; simp at h; obtain ⟨rfl, rfl⟩ := h; simp [Op.equalIn, run_underlying hu]
    case h_3 a b hu => simp [R] at hx hy; obtain ⟨rfl, _⟩ := hx; obtain ⟨rfl, _⟩ := hy; simp at h; subst h; simp [Op.equalIn, run_underlying hu, bytes_beq]
    all_goals
      rename_i hu
      simp only [R] at hx hy
      simp at h
      subst h
      first
        | (subst hx; subst hy; simp [Op.equalIn, run_underlying hu]; done)
        | (obtain ⟨_, _, rfl⟩ := hx; subst hy; simp [Op.equalIn, run_underlying hu]; done)
        | (obtain ⟨_, _, rfl⟩ := hy; subst hx; simp [Op.equalIn, run_underlying hu]; done)
        | (obtain ⟨_, rfl, _⟩ := hx; subst hy; simp [Op.equalIn, run_underlying hu]; done)
        | (obtain ⟨_, rfl, _⟩ := hy; subst hx; simp [Op.equalIn, run_underlying hu]; done)
        | (obtain ⟨_, _, rfl, _⟩ := hx; subst hy; simp [Op.equalIn, run_underlying hu]; done)
        | (obtain ⟨_, _, rfl, _⟩ := hy; subst hx; simp [Op.equalIn, run_underlying hu]; done)
end Go.Eng

/- The engine, part 3: every operation that leaves memory alone. -/
namespace Go.Eng
set_option linter.unusedSimpArgs false
set_option linter.unusedVariables false

def isConstO : Operand → Bool
  | .const _ => true
  | _ => false

/-- May two values be compared so (the model asks this ahead of == and !=)? -/
def eqOk (P : Program) (t : TypeId) (x y : Operand) : V → V → Bool
  | .nili, .nili => isConstO x || isConstO y
  | .agg _, .agg _ => !P.eqGuardType P.depth t
  | .any, _ | _, .any | .when _ _, _ | _, .when _ _ => false
  | _, _ => true

def bitsV (op : BinOp) (k : IntKind) (x y : Int) : Int :=
  let a := BitVec.ofInt k.bits x
  let b := BitVec.ofInt k.bits y
  match op with
  | .and => k.wrap ((a &&& b).toNat : Nat)
  | .or => k.wrap ((a ||| b).toNat : Nat)
  | .xor => k.wrap ((a ^^^ b).toNat : Nat)
  | _ => k.wrap ((a &&& ~~~b).toNat : Nat)

/-- Operators, but == and != of what is no integer and no text. -/
def binV (op : BinOp) : V → V → Option (Prop × V)
  | .int k a, .int k' b =>
    match op with
    | .add => some (k = k', .int k (k.wrap (a + b)))
    | .sub => some (k = k', .int k (k.wrap (a - b)))
    | .mul => some (k = k', .int k (k.wrap (a * b)))
    | .quo => some (k = k' ∧ b ≠ 0, .int k (k.wrap (a.tdiv b)))
    | .rem => some (k = k' ∧ b ≠ 0, .int k (a.tmod b))
    | .and | .or | .xor | .andNot => some (k = k', .int k (bitsV op k a b))
    | .eql => some (k = k', .bool (a == b))
    | .neq => some (k = k', .bool (a != b))
    | .lss => some (k = k', .bool (decide (a < b)))
    | .leq => some (k = k', .bool (decide (a ≤ b)))
    | .gtr => some (k = k', .bool (decide (a > b)))
    | .geq => some (k = k', .bool (decide (a ≥ b)))
    | _ => none
  | .str a, .str b =>
    match op with
    | .add => some (a.length + b.length ≤ maxLen, .str (a ++ b))
    | .eql => some (True, .bool (a == b))
    | .neq => some (True, .bool (!(a == b)))
    | .lss => some (True, .bool (Op.bytesLess a b))
    | .leq => some (True, .bool (Op.bytesLess a b || a == b))
    | .gtr => some (True, .bool (!(Op.bytesLess a b || a == b)))
    | .geq => some (True, .bool (!Op.bytesLess a b))
    | _ => none
  | _, _ => none

def eqlV (P : Program) (op : BinOp) (t : TypeId) (x y : Operand) (a b : V) : Option (Prop × V) :=
  match eqV P 8 t a b with
  | some r =>
    match op with
    | .eql => some (eqOk P t x y a b = true, .bool r)
    | .neq => some (eqOk P t x y a b = true, .bool (!r))
    | _ => none
  | none => none

/-- Any operator. -/
def opV (P : Program) (op : BinOp) (t : TypeId) (x y : Operand) (a b : V) : Option (Prop × V) :=
  match a, b with
  | .int _ _, _ | .str _, _ => binV op a b
  | .lref _ _ _, .nilp | .nilp, .lref _ _ _ =>
    match P.underlying t, op with
    | some (.pointer _), .eql => some (True, .bool false)
    | some (.pointer _), .neq => some (True, .bool true)
    | _, _ => none
  | .lref _ _ _, _ | _, .lref _ _ _ | .lrs _ _ _ _, _ | _, .lrs _ _ _ _ => none
  | _, _ => eqlV P op t x y a b

theorem toList_mk (s : List UInt8) : (⟨⟨s⟩⟩ : ByteArray).toList = s := by rw [ByteArray.toList_eq]

theorem binV_sound {P : Program} {E : Env} {w : World} {op : BinOp} {t : TypeId} {a b : V} {c : Prop} {v : V} {x y : Value} (h : binV op a b = some (c, v)) (hc : c) (hx : R E w a x) (hy : R E w b y) :
    ∃ z, (binOp op t x y).run P w = .ok z w ∧ R E w v z := by
  unfold binV at h
  split at h
  · rename_i k i k' j
    simp only [R] at hx hy
    subst hx; subst hy
    cases op <;> simp at h <;> obtain ⟨h1, rfl⟩ := h <;> rw [← h1] at hc
    all_goals first
      | (obtain ⟨hk, hz⟩ := hc; subst hk; refine ⟨_, by simp [binOp, Op.intDiv, hz]; rfl, by simp [R]⟩; done)
      | (subst hc; refine ⟨_, by simp [binOp, Op.intArith, Op.intBits, Op.intCmp]; rfl, by simp [R, bitsV]⟩; done)
  · rename_i i j
    simp only [R] at hx hy
    obtain ⟨rfl, hi⟩ := hx
    obtain ⟨rfl, hj⟩ := hy
    cases op <;> simp at h <;> obtain ⟨h1, rfl⟩ := h <;> (try rw [← h1] at hc)
    case add =>
      refine ⟨.string ((⟨⟨i⟩⟩ : ByteArray) ++ ⟨⟨j⟩⟩), ?_, ?_⟩
      · have := run_string_add_sum (P := P) (w := w) (⟨⟨i⟩⟩ : ByteArray) ⟨⟨j⟩⟩ (by simpa [ByteArray.size, maxLen] using hc)
        simpa [binOp] using this
      · simp only [R, List.length_append]
        refine ⟨?_, by omega⟩
        congr 1
    all_goals (refine ⟨_, by simp only [binOp, Op.stringOp, toList_mk]; rfl, by simp [R]⟩)
  · simp at h

/-- The kind of an abstract value, and of a value. -/
def V.tag : V → Nat
  | .bool _ => 0 | .int _ _ => 1 | .str _ => 2 | .agg _ => 3 | .tup _ => 4 | .lst _ | .nils | .emp | .sli _ _ _ _ => 5 | .nilp | .ptr _ _ | .eref _ _ => 6 | .nilm | .map _ => 7
  | .fn _ _ _ => 8 | .nilf => 9 | .iface _ _ => 10 | .nili => 11 | .any => 20 | .when _ _ => 20 | .box _ _ => 21 | .itr _ _ _ => 21 | .lref _ _ _ | .lrs _ _ _ _ => 22
def vtag : Value → Nat
  | .bool _ => 0 | .int _ _ => 1 | .string _ => 2 | .agg _ => 3 | .tuple _ => 4 | .slice _ _ _ => 5 | .pointer _ => 6 | .map _ => 7
  | .func _ _ _ => 8 | .nilFunc => 9 | .iface _ _ => 10 | .nilIface => 11 | .float _ _ => 12 | .complex _ _ _ => 13 | .chan _ => 14

theorem R.tag {E : Env} {w : World} {v : V} {x : Value} (h : R E w v x) (hv : v.tag < 20) : v.tag = vtag x := by
  cases v <;> simp only [R, V.tag] at * <;> first
    | (subst h; rfl)
    | (obtain ⟨rfl, _⟩ := h; rfl)
    | (obtain ⟨_, rfl, _⟩ := h; rfl)
    | (obtain ⟨_, _, rfl, _⟩ := h; rfl)
    | (obtain ⟨_, _, rfl⟩ := h; rfl)
    | omega

theorem eqOk_tag {P : Program} {t : TypeId} {x y : Operand} {a b : V} (h : eqOk P t x y a b = true) (ha : a.tag < 21) (hb : b.tag < 21) : a.tag < 20 ∧ b.tag < 20 := by
  cases a <;> cases b <;> simp [eqOk, V.tag] at *

theorem R.not21 {E : Env} {w : World} {v : V} {x : Value} (h : R E w v x) : v.tag < 21 := by
  cases v <;> simp [R, V.tag] at *

theorem guard_ok {P : Program} {w : World} {op : BinOp} {t : TypeId} {ox oy : Operand} {x y : Value} (hop : op = .eql ∨ op = .neq)
    (h1 : x = .nilIface → y = .nilIface → (isConstO ox || isConstO oy) = true) (h2 : ∀ xs ys, x = .agg xs → y = .agg ys → P.eqGuardType P.depth t = false) :
    (eqGuard op t ox oy x y).run P w = .ok () w := by
  unfold eqGuard
  rcases hop with rfl | rfl <;> cases x <;> cases y <;> try (simp; done)
  all_goals first
    | (have := h1 rfl rfl; cases ox <;> cases oy <;> simp [isConstO] at this ⊢; done)
    | (have := h2 _ _ rfl rfl; simp [this]; done)

theorem eqlV_sound {P : Program} {E : Env} {w : World} {op : BinOp} {t : TypeId} {ox oy : Operand} {a b : V} {c : Prop} {v : V} {x y : Value} (hna : ∀ k n, a ≠ .int k n) (hns : ∀ s, a ≠ .str s) (h : eqlV P op t ox oy a b = some (c, v)) (hc : c) (hx : R E w a x) (hy : R E w b y) :
    ∃ z, (do eqGuard op t ox oy x y; binOp op t x y : Sem Value).run P w = .ok z w ∧ R E w v z := by
  unfold eqlV at h
  cases hr : eqV P 8 t a b with
  | none => simp [hr] at h
  | some r =>
  simp only [hr] at h
  have he : (Op.equal t x y).run P w = .ok r w := eqV_sound (P := P) (E := E) (w := w) 9992 8 t a b r x y hr hx hy
  have hop : (op = .eql ∧ v = .bool r ∨ op = .neq ∧ v = .bool (!r)) ∧ eqOk P t ox oy a b = true := by
    cases op <;> simp at h <;> obtain ⟨h1, rfl⟩ := h <;> rw [← h1] at hc <;> simp [hc]
  clear h
  obtain ⟨hop, hok⟩ := hop
  obtain ⟨hta, htb⟩ := eqOk_tag hok hx.not21 hy.not21
  have hax := hx.tag hta
  have hby := hy.tag htb
  have hg : (eqGuard op t ox oy x y).run P w = .ok () w := by
    refine guard_ok (hop.imp (·.1) (·.1)) (fun e1 e2 => ?_) (fun xs ys e1 e2 => ?_)
    · subst e1; subst e2
      have ha : a = .nili := by cases a <;> simp [V.tag, vtag] at hax ⊢
      have hb : b = .nili := by cases b <;> simp [V.tag, vtag] at hby ⊢
      subst ha; subst hb
      exact hok
    · subst e1; subst e2
      have ha : ∃ l, a = .agg l := by cases a <;> simp [V.tag, vtag] at hax ⊢
      have hb : ∃ l, b = .agg l := by cases b <;> simp [V.tag, vtag] at hby ⊢
      obtain ⟨l, rfl⟩ := ha
      obtain ⟨l', rfl⟩ := hb
      simpa only [eqOk, Bool.not_eq_true'] using hok
  have hxi : ∀ k n, x ≠ .int k n := by
    intro k n hxx; subst hxx
    cases a <;> simp [V.tag, vtag] at hax
    exact hna _ _ rfl
  have hxs : ∀ s, x ≠ .string s := by
    intro s hxx; subst hxx
    cases a <;> simp [V.tag, vtag] at hax
    exact hns _ rfl
  have hxf : ∀ k n, x ≠ .float k n := by
    intro k n hxx; subst hxx
    cases a <;> simp [V.tag, vtag] at hax
  have hxc : ∀ k n m, x ≠ .complex k n m := by
    intro k n m hxx; subst hxx
    cases a <;> simp [V.tag, vtag] at hax
  rcases hop with ⟨rfl, rfl⟩ | ⟨rfl, rfl⟩
  · refine ⟨.bool r, ?_, by simp [R]⟩
    have : (binOp .eql t x y).run P w = .ok (.bool r) w := by
      cases x <;> first | exact absurd rfl (hxi _ _) | exact absurd rfl (hxs _) | exact absurd rfl (hxf _ _) | exact absurd rfl (hxc _ _ _) | simp [binOp, he]
    simp [hg, this]
  · refine ⟨.bool (!r), ?_, by simp [R]⟩
    have : (binOp .neq t x y).run P w = .ok (.bool (!r)) w := by
      cases x <;> first | exact absurd rfl (hxi _ _) | exact absurd rfl (hxs _) | exact absurd rfl (hxf _ _) | exact absurd rfl (hxc _ _ _) | simp [binOp, he]
    simp [hg, this]

theorem nilAddr_sound {P : Program} {w : World} {op : BinOp} {t e : TypeId} {ox oy : Operand} {a : Option Addr} {b : Option Addr} {r : Bool} (hu : P.underlying t = some (.pointer e)) (hab : (a = none ∧ b.isSome = true) ∨ (a.isSome = true ∧ b = none))
    (hop : (op = .eql ∧ r = false) ∨ (op = .neq ∧ r = true)) :
    (do eqGuard op t ox oy (.pointer a) (.pointer b); binOp op t (.pointer a) (.pointer b) : Sem Value).run P w = .ok (.bool r) w := by
  have hg : (eqGuard op t ox oy (.pointer a) (.pointer b)).run P w = .ok () w := guard_ok (hop.imp (·.1) (·.1)) (fun e => by cases e) (fun _ _ e => by cases e)
  have hd : ∀ d, (Op.equalIn (d + 1) t (.pointer a) (.pointer b)).run P w = .ok false w := by
    intro d
    rcases hab with ⟨rfl, hb⟩ | ⟨ha, rfl⟩
    · cases b <;> simp at hb; simp [Op.equalIn, run_underlying hu]
    · cases a <;> simp at ha; simp [Op.equalIn, run_underlying hu]
  have he : (Op.equal t (.pointer a) (.pointer b)).run P w = .ok false w := hd 9999
  rcases hop with ⟨rfl, rfl⟩ | ⟨rfl, rfl⟩ <;> simp [hg, binOp, he]

theorem opV_sound {P : Program} {E : Env} {w : World} {op : BinOp} {t : TypeId} {ox oy : Operand} {a b : V} {c : Prop} {v : V} {x y : Value} (h : opV P op t ox oy a b = some (c, v)) (hc : c) (hx : RO E w a x) (hy : RO E w b y) :
    ∃ z, (do eqGuard op t ox oy x y; binOp op t x y : Sem Value).run P w = .ok z w ∧ R E w v z := by
  unfold opV at h
  split at h
  · have hyb : R E w b y := hy.toR (by cases b <;> first | rfl | (simp [binV] at h))
    simp only [RO] at hx
    obtain ⟨z, hz, hr⟩ := binV_sound (P := P) (t := t) h hc hx hyb
    refine ⟨z, ?_, hr⟩
    have hg : (eqGuard op t ox oy x y).run P w = .ok () w := by
      simp only [R] at hx; subst hx
      unfold eqGuard; cases op <;> simp
    simp [hg, hz]
  · have hyb : R E w b y := hy.toR (by cases b <;> first | rfl | (simp [binV] at h))
    simp only [RO] at hx
    obtain ⟨z, hz, hr⟩ := binV_sound (P := P) (t := t) h hc hx hyb
    refine ⟨z, ?_, hr⟩
    have hg : (eqGuard op t ox oy x y).run P w = .ok () w := by
      simp only [R] at hx; obtain ⟨rfl, _⟩ := hx
      unfold eqGuard; cases op <;> simp
    simp [hg, hz]
  · simp only [RO, R] at hx hy
    obtain ⟨b', _, rfl⟩ := hx; subst hy
    split at h <;> simp at h
    · rename_i e hu; obtain ⟨_, rfl⟩ := h; exact ⟨_, nilAddr_sound hu (.inr ⟨rfl, rfl⟩) (.inl ⟨rfl, rfl⟩), by simp [R]⟩
    · rename_i e hu; obtain ⟨_, rfl⟩ := h; exact ⟨_, nilAddr_sound hu (.inr ⟨rfl, rfl⟩) (.inr ⟨rfl, rfl⟩), by simp [R]⟩
  · simp only [RO, R] at hx hy
    obtain ⟨b', _, rfl⟩ := hy; subst hx
    split at h <;> simp at h
    · rename_i e hu; obtain ⟨_, rfl⟩ := h; exact ⟨_, nilAddr_sound hu (.inl ⟨rfl, rfl⟩) (.inl ⟨rfl, rfl⟩), by simp [R]⟩
    · rename_i e hu; obtain ⟨_, rfl⟩ := h; exact ⟨_, nilAddr_sound hu (.inl ⟨rfl, rfl⟩) (.inr ⟨rfl, rfl⟩), by simp [R]⟩
  · simp at h
  · simp at h
  · simp at h
  · simp at h
  · rename_i h1 h2 h3 h4 h5 h6 h7 h8
    exact eqlV_sound (fun k n e => h1 _ _ e) (fun s e => h2 _ e) h hc (hx.toR (by cases a <;> first | rfl | exact absurd rfl (h3 _ _ _) | exact absurd rfl (h4 _ _ _ _))) (hy.toR (by cases b <;> first | rfl | exact absurd rfl (h5 _ _ _) | exact absurd rfl (h6 _ _ _ _)))
end Go.Eng

/- The engine, part 4: every operation that leaves memory alone, as one function, and that the model does what it says. -/
namespace Go.Eng
set_option linter.unusedSimpArgs false
set_option linter.unusedVariables false

def fieldInfo (P : Program) (t : TypeId) (f : Nat) : Option (Nat × TI) :=
  match P.underlying t with
  | some (.struct fs) =>
    match fs[f]? with
    | some fd =>
      match ti P fd.type with
      | some T => some (fd.offset, T)
      | none => none
    | none => none
  | _ => none

def addrAdd (v : V) (n : Nat) : Option V :=
  match v with
  | .ptr o off => some (.ptr o (off + n))
  | .lref s g off => some (.lref s g (off + n))
  | .eref cs off => some (.eref cs (off + n))
  | _ => none

theorem addrAdd_sound {E : Env} {w : World} {v u : V} {n : Nat} {x : Value} (h : addrAdd v n = some u) (hr : RO E w v x) :
    ∃ b off, x = .pointer (some ⟨b, off, none⟩) ∧ RO E w u (.pointer (some ⟨b, off + n, none⟩)) := by
  unfold addrAdd at h
  split at h <;> simp at h
  · subst h; simp only [RO, R] at hr; obtain ⟨b, hb, rfl⟩ := hr; exact ⟨b, _, rfl, by simp only [RO, R]; exact ⟨b, hb, rfl⟩⟩
  · subst h; simp only [RO] at hr; obtain ⟨b, hb, rfl⟩ := hr; exact ⟨b, _, rfl, by simp only [RO]; exact ⟨b, hb, rfl⟩⟩
  · subst h; simp only [RO, R] at hr; obtain ⟨b, base, rfl, h1, h2, h3⟩ := hr; exact ⟨b, _, rfl, by simp only [RO, R]; exact ⟨b, base, by rw [Nat.add_assoc], h1, h2, h3⟩⟩

theorem addr_add (b off n : Nat) : (⟨b, off, none⟩ : Addr).add n = ⟨b, off + n, none⟩ := by
  unfold Addr.add; split
  · subst_vars; rfl
  · rfl

/-- Reading through an address. -/
def loadA (M : Heap) (fr : Nat → V) (T : TI) : V → Option (Prop × V)
  | .lref s g off =>
    match fr s with
    | .box g' cs => match loadV T cs off with
      | some v => some (g = g', v)
      | none => none
    | _ => none
  | .eref cs off => match loadV T cs off with
    | some v => some (True, v)
    | none => none
  | .ptr o off =>
    match M o with
    | some (.cells cs) => match loadV T cs off with
      | some v => some (True, v)
      | none => none
    | _ => none
  | _ => none

theorem loadA_sound {P : Program} {E : Env} {w : World} {M : Heap} {fr : Nat → V} {tmps : Array Value} {t : TypeId} {T : TI} {a v : V} {c : Prop} {x : Value} (ht : ti P t = some T)
    (h : loadA M fr T a = some (c, v)) (hc : c) (hf : FR E w fr tmps) (hm : RH E w M) (hr : RO E w a x) : ∃ y, (Instr.loadAt t x).run P w = .ok y w ∧ R E w v y := by
  unfold loadA at h
  split at h
  · rename_i s g off
    split at h
    · rename_i g' cs hs
      split at h <;> simp at h
      rename_i v' hl
      obtain ⟨h1, rfl⟩ := h
      rw [← h1] at hc; subst hc
      simp only [RO, R] at hr
      obtain ⟨b, hb, rfl⟩ := hr
      have := hf s
      rw [hs] at this
      simp only [RS] at this
      obtain ⟨b', arr, ty, hb', _, hh, hl'⟩ := this
      rw [hb] at hb'; cases hb'
      obtain ⟨y, hy, hry⟩ := loadVar_sound (P := P) (base := 0) ht hl (RL.mem hh (k := 0) (by simpa using hl'))
      exact ⟨y, by simpa [Instr.loadAt, Instr.sureAddr] using hy, hry⟩
    · simp at h
  · rename_i cs off
    split at h <;> simp at h
    rename_i v' hl
    obtain ⟨_, rfl⟩ := h
    simp only [RO, R] at hr
    obtain ⟨b, base, rfl, h1, h2, h3⟩ := hr
    obtain ⟨y, hy, hry⟩ := loadVar_sound (P := P) ht hl h3
    exact ⟨y, by simpa [Instr.loadAt, Instr.sureAddr] using hy, hry⟩
  · rename_i o off
    split at h
    · rename_i cs ho
      split at h <;> simp at h
      rename_i v' hl
      obtain ⟨_, rfl⟩ := h
      simp only [RO, R] at hr
      obtain ⟨b, hb, rfl⟩ := hr
      obtain ⟨b', hb', arr, ty, hh, hl'⟩ := hm o _ ho
      rw [hb] at hb'; cases hb'
      obtain ⟨y, hy, hry⟩ := loadVar_sound (P := P) (base := 0) ht hl (RL.mem hh (k := 0) (by simpa using hl'))
      exact ⟨y, by simpa [Instr.loadAt, Instr.sureAddr] using hy, hry⟩
    · simp at h
  · simp at h

/-! ### Slicing -/
def cutL {α : Type} (s : List α) : Option Nat → Option Nat → List α
  | none, none => s
  | some l, none => s.drop l
  | none, some h => s.take h
  | some l, some h => (s.take h).drop l

/-- An optional bound. -/
def boundV (fr : Nat → V) : Option Operand → Option (Prop × Option Int)
  | none => some (True, none)
  | some x => match opv fr x with
    | some (g, .int _ n) => some (g, some n)
    | _ => none

def boundsOk (len : Nat) (l h : Option Int) : Prop := 0 ≤ l.getD 0 ∧ l.getD 0 ≤ h.getD len ∧ h.getD len ≤ len
/-- The same, where the length may be passed. -/
def boundsC (len cap : Nat) (l h : Option Int) : Prop := 0 ≤ l.getD 0 ∧ l.getD 0 ≤ h.getD len ∧ h.getD len ≤ cap

theorem sliceBounds_cap {P : Program} {w : World} {isSlice : Bool} {len cap : Nat} {l h : Option Int} {lo hi : Option Value} (hl : ∀ n, l = some n → ∃ k, lo = some (.int k n)) (hl' : l = none → lo = none)
    (hh : ∀ n, h = some n → ∃ k, hi = some (.int k n)) (hh' : h = none → hi = none) (ho : boundsC len cap l h) :
    (Instr.sliceBounds isSlice len cap lo hi none).run P w = .ok ((l.getD 0).toNat, (h.getD len).toNat, cap) w := by
  obtain ⟨h1, h2, h3⟩ := ho
  have e1 : lo = none ∧ l = none ∨ ∃ k n, lo = some (.int k n) ∧ l = some n := by
    cases l with
    | none => exact .inl ⟨hl' rfl, rfl⟩
    | some n => obtain ⟨k, hk⟩ := hl n rfl; exact .inr ⟨k, n, hk, rfl⟩
  have e2 : hi = none ∧ h = none ∨ ∃ k n, hi = some (.int k n) ∧ h = some n := by
    cases h with
    | none => exact .inl ⟨hh' rfl, rfl⟩
    | some n => obtain ⟨k, hk⟩ := hh n rfl; exact .inr ⟨k, n, hk, rfl⟩
  rcases e1 with ⟨rfl, rfl⟩ | ⟨k, n, rfl, rfl⟩ <;> rcases e2 with ⟨rfl, rfl⟩ | ⟨k', n', rfl, rfl⟩ <;> simp only [Option.getD_some, Option.getD_none] at *
  · simp [Instr.sliceBounds]
  · simp [Instr.sliceBounds, run_sliceBound (P := P) (w := w) k' n' cap _ (by omega) (by omega)]
  · simp [Instr.sliceBounds, run_sliceBound (P := P) (w := w) k n len _ (by omega) (by omega)]
  · have : n ≤ (n'.toNat : Int) := by omega
    simp [Instr.sliceBounds, run_sliceBound (P := P) (w := w) k' n' cap _ (by omega) (by omega), run_sliceBound (P := P) (w := w) k n n'.toNat _ (by omega) (by omega)]

theorem sliceBounds_sound {P : Program} {w : World} {isSlice : Bool} {len cap : Nat} {l h : Option Int} {lo hi : Option Value} (hcap : len ≤ cap) (hl : ∀ n, l = some n → ∃ k, lo = some (.int k n)) (hl' : l = none → lo = none)
    (hh : ∀ n, h = some n → ∃ k, hi = some (.int k n)) (hh' : h = none → hi = none) (ho : boundsOk len l h) :
    (Instr.sliceBounds isSlice len cap lo hi none).run P w = .ok ((l.getD 0).toNat, (h.getD len).toNat, cap) w :=
  sliceBounds_cap hl hl' hh hh' ⟨ho.1, ho.2.1, by have := ho.2.2; omega⟩

theorem cutL_eq {α : Type} (s : List α) (l h : Option Int) (ho : boundsOk s.length l h) : cutL s (l.map Int.toNat) (h.map Int.toNat) = (s.take (h.getD s.length).toNat).drop (l.getD 0).toNat := by
  obtain ⟨h1, h2, h3⟩ := ho
  cases l <;> cases h <;> simp [cutL]

theorem boundV_sound {E : Env} {w : World} {fr : Nat → V} {a : Act} {x : Option Operand} {c : Prop} {l : Option Int} (h : boundV fr x = some (c, l)) (hc : c) (hf : FR E w fr a.tmps) :
    (∀ n, l = some n → ∃ k, x.map a.eval = some (.int k n)) ∧ (l = none → x.map a.eval = none) := by
  unfold boundV at h
  split at h
  · simp at h; obtain ⟨_, rfl⟩ := h; simp
  · split at h <;> simp at h
    rename_i g k n ho
    obtain ⟨hg, rfl⟩ := h
    have := opv_sound ho (hg.2 hc) hf
    simp only [RO, R] at this
    exact ⟨fun m hm => by cases hm; exact ⟨k, by simp [this]⟩, fun hm => by cases hm⟩

def sliceV (P : Program) (t : TypeId) (x : V) (l h : Option Int) : Option (Prop × V) :=
  match P.underlying t, x with
  | some .string, .str s => some (boundsOk s.length l h, .str (cutL s (l.map Int.toNat) (h.map Int.toNat)))
  | some (.slice e), .lst es =>
    match ti P e with
    | some T => some (boundsOk es.length l h ∧ (∀ c ∈ es, c.length = T.size), .lst (cutL es (l.map Int.toNat) (h.map Int.toNat)))
    | none => none
  | some (.slice e), .sli o off len cap =>
    match ti P e with
    | some T => some (boundsC len cap l h, .sli o (if cap = (l.getD 0).toNat then off else off + (l.getD 0).toNat * T.size) ((h.getD len).toNat - (l.getD 0).toNat) (cap - (l.getD 0).toNat))
    | none => none
  | some (.slice e), .nils =>
    match ti P e with
    | some _ => some (boundsC 0 0 l h, .nils)
    | none => none
  | some (.array n e), .lref s g off =>
    match l, h, ti P e with
    | none, none, some _ => some (n ≤ maxLen, .lrs s g off n)
    | _, _, _ => none
  | some (.array n e), .ptr o off =>
    match l, h, ti P e with
    | none, none, some _ => some (n ≤ maxLen, .sli o off n n)
    | _, _, _ => none
  | _, _ => none

theorem sliceV_sound {P : Program} {E : Env} {w : World} {t : TypeId} {v u : V} {x : Value} {l h : Option Int} {lo hi : Option Value} {c : Prop}
    (hs : sliceV P t v l h = some (c, u)) (hc : c) (hr : RO E w v x) (hl : ∀ n, l = some n → ∃ k, lo = some (.int k n)) (hl' : l = none → lo = none)
    (hh : ∀ n, h = some n → ∃ k, hi = some (.int k n)) (hh' : h = none → hi = none) : ∃ y, (Instr.sliceAt t x lo hi none).run P w = .ok y w ∧ RO E w u y := by
  unfold sliceV at hs
  split at hs
  · rename_i s hu
    simp at hs; obtain ⟨h1, rfl⟩ := hs
    rw [← h1] at hc
    simp only [RO, R] at hr
    obtain ⟨rfl, hlen⟩ := hr
    have hb := sliceBounds_sound (P := P) (w := w) (isSlice := false) (len := s.length) (cap := s.length) (Nat.le_refl _) hl hl' hh hh' hc
    have hsz : (⟨⟨s⟩⟩ : ByteArray).size = s.length := rfl
    refine ⟨.string ((⟨⟨s⟩⟩ : ByteArray).extract (l.getD 0).toNat (h.getD s.length).toNat), ?_, ?_⟩
    · simp only [Instr.sliceAt, Sem.run_bind, run_underlying hu, Result.andThen_ok, Instr.slice]
      simp [run_underlying hu, hsz, hb]
    · rw [cutL_eq s l h hc]
      simp only [RO, R]
      refine ⟨?_, by simp; omega⟩
      congr 1
      apply ByteArray.ext
      apply Array.ext'
      rw [ByteArray.data_extract, Array.toList_extract, List.drop_take]
  · rename_i e es hu
    split at hs <;> simp at hs
    rename_i T hT
    obtain ⟨h1, rfl⟩ := hs
    rw [← h1] at hc
    obtain ⟨hc, hsz⟩ := hc
    simp only [RO, R] at hr
    obtain ⟨a, cap, rfl, hcap, hmax, hmem⟩ := hr
    have hb := sliceBounds_sound (P := P) (w := w) (isSlice := true) (len := es.length) (cap := cap) hcap hl hl' hh hh' hc
    refine ⟨.slice (if cap = (l.getD 0).toNat then a else a.map (·.add ((l.getD 0).toNat * T.size))) ((h.getD es.length).toNat - (l.getD 0).toNat) (cap - (l.getD 0).toNat), ?_, ?_⟩
    · simp only [Instr.sliceAt, Sem.run_bind, run_underlying hu, Result.andThen_ok, Instr.slice]
      simp [run_underlying hu, hb, run_sizeOf hT]
    · rw [cutL_eq es l h hc]
      obtain ⟨g1, g2, g3⟩ := hc
      have hlen : ((es.take (h.getD es.length).toNat).drop (l.getD 0).toNat).length = (h.getD es.length).toNat - (l.getD 0).toNat := by simp; omega
      simp only [RO, R]
      rw [hlen]
      refine ⟨_, _, rfl, by omega, by omega, ?_⟩
      rcases hmem with rfl | ⟨b, off, sz, rfl, hb1, hb2, hre⟩
      · exact .inl (by simp)
      · by_cases hz : cap = (l.getD 0).toNat
        · left
          apply List.eq_nil_of_length_eq_zero
          rw [hlen]; omega
        · cases es with
          | nil => exact .inl (by simp)
          | cons e0 es0 =>
            have hsz0 : sz = T.size := by
              simp only [RE] at hre
              rw [← hre.1]
              exact hsz e0 (by simp)
            subst hsz0
            right
            refine ⟨b, off + (l.getD 0).toNat * T.size, T.size, ?_, hb1, hb2, (hre.take _).drop _⟩
            rw [if_neg hz]
            simp [addr_add]
  · rename_i e o off len cap hu
    split at hs <;> simp at hs
    rename_i T hT
    obtain ⟨h1, rfl⟩ := hs
    rw [← h1] at hc
    simp only [RO, R] at hr
    obtain ⟨b, hb, rfl, hle, hmax⟩ := hr
    have hbd := sliceBounds_cap (P := P) (w := w) (isSlice := true) (len := len) (cap := cap) hl hl' hh hh' hc
    obtain ⟨g1, g2, g3⟩ := hc
    refine ⟨.slice (if cap = (l.getD 0).toNat then some ⟨b, off, none⟩ else (some (⟨b, off, none⟩ : Addr)).map (·.add ((l.getD 0).toNat * T.size))) ((h.getD len).toNat - (l.getD 0).toNat) (cap - (l.getD 0).toNat), ?_, ?_⟩
    · simp only [Instr.sliceAt, Sem.run_bind, run_underlying hu, Result.andThen_ok, Instr.slice]
      simp [run_underlying hu, hbd, run_sizeOf hT]
    · simp only [RO, R]
      refine ⟨b, hb, ?_, by omega, by omega⟩
      split <;> simp [addr_add]
  · rename_i e hu
    split at hs <;> simp at hs
    rename_i T hT
    obtain ⟨h1, rfl⟩ := hs
    rw [← h1] at hc
    simp only [RO, R] at hr
    subst hr
    have hbd := sliceBounds_cap (P := P) (w := w) (isSlice := true) (len := 0) (cap := 0) hl hl' hh hh' hc
    obtain ⟨g1, g2, g3⟩ := hc
    have e1 : (l.getD 0).toNat = 0 := by simp at g2 g3 ⊢; omega
    have e2 : (h.getD (0 : Nat)).toNat = 0 := by simp at g2 g3 ⊢; omega
    refine ⟨.slice none 0 0, ?_, by simp [RO, R]⟩
    simp only [Instr.sliceAt, Sem.run_bind, run_underlying hu, Result.andThen_ok, Instr.slice]
    rw [e1, e2] at hbd
    simp [run_underlying hu, hbd, run_sizeOf hT]
  · rename_i n e s g off hu
    split at hs <;> simp at hs
    rename_i T hT
    obtain ⟨h1, rfl⟩ := hs
    rw [← h1] at hc
    simp only [RO] at hr
    obtain ⟨b, hb, rfl⟩ := hr
    have hbd := sliceBounds_cap (P := P) (w := w) (isSlice := false) (len := n) (cap := n) (l := none) (h := none) hl hl' hh hh' ⟨by simp, by simp, by simp⟩
    refine ⟨.slice (some ⟨b, off, none⟩) n n, ?_, by simp only [RO]; exact ⟨b, hb, rfl, hc⟩⟩
    simp only [Option.getD_none, Int.toNat_zero, Int.toNat_natCast] at hbd
    simp [Instr.sliceAt, run_underlying hu, Instr.sureAddr, hbd, run_sizeOf hT]
    intro _
    simp [Addr.add]
  · rename_i n e o off hu
    split at hs <;> simp at hs
    rename_i T hT
    obtain ⟨h1, rfl⟩ := hs
    rw [← h1] at hc
    simp only [RO, R] at hr
    obtain ⟨b, hb, rfl⟩ := hr
    have hbd := sliceBounds_cap (P := P) (w := w) (isSlice := false) (len := n) (cap := n) (l := none) (h := none) hl hl' hh hh' ⟨by simp, by simp, by simp⟩
    refine ⟨.slice (some ⟨b, off, none⟩) n n, ?_, by simp only [RO, R]; exact ⟨b, hb, rfl, Nat.le_refl _, hc⟩⟩
    simp only [Option.getD_none, Int.toNat_zero, Int.toNat_natCast] at hbd
    simp [Instr.sliceAt, run_underlying hu, Instr.sureAddr, hbd, run_sizeOf hT]
    intro _
    simp [Addr.add]
  · simp at hs

/-- 's[:0:0]': nothing, and no room. -/
def slice0V (P : Program) (t : TypeId) (x : V) (l h m : Option Int) : Option V :=
  match P.underlying t, h, m with
  | some (.slice e), some h, some m =>
    match ti P e with
    | some _ => if h = 0 ∧ m = 0 ∧ l.getD 0 = 0 ∧ x.tag = 5 then some .emp else none
    | none => none
  | _, _, _ => none

theorem slice0V_sound {P : Program} {E : Env} {w : World} {t : TypeId} {v u : V} {x : Value} {l h m : Option Int} {lo hi mx : Option Value}
    (hs : slice0V P t v l h m = some u) (hr : RO E w v x) (hl : ∀ n, l = some n → ∃ k, lo = some (.int k n)) (hl' : l = none → lo = none)
    (hh : ∀ n, h = some n → ∃ k, hi = some (.int k n)) (hm : ∀ n, m = some n → ∃ k, mx = some (.int k n)) : ∃ y, (Instr.sliceAt t x lo hi mx).run P w = .ok y w ∧ RO E w u y := by
  unfold slice0V at hs
  split at hs <;> try (cases hs; done)
  rename_i e h m hu
  split at hs <;> try (cases hs; done)
  rename_i T hT
  split at hs <;> try (cases hs; done)
  rename_i hc
  cases hs
  obtain ⟨rfl, rfl, hl0, htag⟩ := hc
  obtain ⟨kh, rfl⟩ := hh 0 rfl
  obtain ⟨km, rfl⟩ := hm 0 rfl
  have hx : ∃ ad len cap, x = .slice ad len cap := by
    cases v <;> simp [V.tag] at htag <;> simp only [RO, R] at hr
    · obtain ⟨a, cap, rfl, _⟩ := hr; exact ⟨_, _, _, rfl⟩
    · subst hr; exact ⟨_, _, _, rfl⟩
    · obtain ⟨a, rfl⟩ := hr; exact ⟨_, _, _, rfl⟩
    · obtain ⟨b, _, rfl, _⟩ := hr; exact ⟨_, _, _, rfl⟩
  obtain ⟨ad, len, cap, rfl⟩ := hx
  refine ⟨.slice ad 0 0, ?_, by simp only [RO, R]; exact ⟨ad, rfl⟩⟩
  have hb : (Instr.sliceBounds true len cap lo (some (.int kh 0)) (some (.int km 0))).run P w = .ok (0, 0, 0) w := by
    cases l with
    | none =>
      rw [hl' rfl]
      simp [Instr.sliceBounds, run_sliceBound (P := P) (w := w) km 0 cap _ (by omega) (by omega), run_sliceBound (P := P) (w := w) kh 0 0 _ (by omega) (by omega)]
    | some n =>
      simp at hl0; subst hl0
      obtain ⟨k, rfl⟩ := hl 0 rfl
      simp [Instr.sliceBounds, run_sliceBound (P := P) (w := w) km 0 cap _ (by omega) (by omega), run_sliceBound (P := P) (w := w) kh 0 0 _ (by omega) (by omega), run_sliceBound (P := P) (w := w) k 0 0 _ (by omega) (by omega)]
  simp only [Instr.sliceAt, Sem.run_bind, run_underlying hu, Result.andThen_ok, Instr.slice]
  simp [run_underlying hu, hb, run_sizeOf hT]

/-! ### Maps -/
def keyEq : V → V → Option Bool
  | .int k a, .int k' b => if k = k' then some (a == b) else none
  | .str a, .str b => some (a == b)
  | .bool a, .bool b => some (a == b)
  | _, _ => none

/-- The first entry of a key: where, and what. -/
def findKV (key : V) : List (V × V) → Nat → Option (Option (Nat × V))
  | [], _ => some none
  | (k, v) :: kvs, i =>
    match keyEq key k with
    | some true => some (some (i, v))
    | some false => findKV key kvs (i + 1)
    | none => none

def keyKind (d : TypeDesc) (key : V) : Bool :=
  match d, key with
  | .int _, .int _ _ => true
  | .string, .str _ => true
  | .bool, .bool _ => true
  | _, _ => false

theorem findKV_sound {E : Env} {w : World} {d : TypeDesc} {key : V} {x : Value} (hk : keyKind d key = true) (hr : R E w key x) : ∀ (kvs : List (V × V)) (es : List MapEntry) (i : Nat) (r : Option (Nat × V)), findKV key kvs i = some r → RKV E w kvs es →
    match r with
    | none => Instr.findNow d x es i = some none
    | some (j, v) => ∃ y, Instr.findNow d x es i = some (some (j, y)) ∧ R E w v y ∧ i ≤ j ∧ ∃ e, es[j - i]? = some e ∧ e.val = y ∧ keyEq key (kvs.getD (j - i) default).1 = some true
  | [], es, i, r, h, hkv => by simp [findKV] at h; subst h; simp [RKV] at hkv; subst hkv; simp [Instr.findNow]
  | (k, v) :: kvs, es, i, r, h, hkv => by
    simp only [RKV] at hkv
    obtain ⟨e, rest, rfl, h1, h2, h3⟩ := hkv
    have hsame : ∀ b, keyEq key k = some b → Instr.sameNow d x e.key = some b := by
      intro b hb
      cases key <;> cases k <;> simp [keyEq] at hb <;> cases d <;> simp [keyKind] at hk
      · simp only [R] at hr h1; subst hr; rw [h1]; simp [Instr.sameNow, hb]
      · obtain ⟨rfl, rfl⟩ := hb; simp only [R] at hr h1; subst hr; rw [h1]; simp [Instr.sameNow]
      · simp only [R] at hr h1; obtain ⟨rfl, _⟩ := hr; rw [h1.1]; simp [Instr.sameNow, bytes_beq, hb]
    unfold findKV at h
    cases hq : keyEq key k with
    | none => simp [hq] at h
    | some b =>
      simp only [hq] at h
      cases b with
      | true =>
        simp at h; subst h
        exact ⟨e.val, by simp [Instr.findNow, hsame _ hq], h2, Nat.le_refl _, e, by simp, rfl, by simpa using hq⟩
      | false =>
        simp at h
        have ih := findKV_sound hk hr kvs rest (i + 1) r h h3
        cases r with
        | none => simpa [Instr.findNow, hsame _ hq] using ih
        | some jv =>
          obtain ⟨j, v'⟩ := jv
          obtain ⟨y, g1, g2, g3, e', g4, g5, g6⟩ := ih
          refine ⟨y, by simpa [Instr.findNow, hsame _ hq] using g1, g2, by omega, e', ?_, g5, ?_⟩
          · rw [show j - i = (j - (i + 1)) + 1 by omega]; simpa using g4
          · rw [show j - i = (j - (i + 1)) + 1 by omega]; simpa using g6

theorem checkKey_ok {P : Program} {E : Env} {w : World} {t : TypeId} {d : TypeDesc} {key : V} {x : Value} (hd : P.underlying t = some d) (hk : keyKind d key = true) (hr : R E w key x) (b : Bool) : (Instr.checkKey b 10000 t x).run P w = .ok () w := by
  unfold Instr.checkKey
  cases d <;> cases key <;> simp [keyKind] at hk
  all_goals
    simp only [R] at hr
    first
      | (subst hr; simp [run_underlying hd]; done)
      | (obtain ⟨rfl, _⟩ := hr; simp [run_underlying hd]; done)

/-- The zero value of a type. -/
def constVL : List Value → Option (List V)
  | [] => some []
  | x :: xs => match constV x, constVL xs with
    | some v, some vs => some (v :: vs)
    | _, _ => none

theorem constVL_sound {E : Env} {w : World} : ∀ {xs : List Value} {vs : List V}, constVL xs = some vs → RL E w vs xs
  | [], vs, h => by simp [constVL] at h; subst h; simp [RL]
  | x :: xs, vs, h => by
    simp only [constVL] at h
    split at h <;> simp at h
    rename_i v vs' h1 h2
    subst h
    simp only [RL]
    exact ⟨x, xs, rfl, constV_sound h1, constVL_sound h2⟩

def zeroV (P : Program) (t : TypeId) : Option V :=
  match P.info? t with
  | some i =>
    match i.zero with
    | some (.agg cs) => match constVL cs.toList with
      | some vs => some (.agg vs)
      | none => none
    | some x => constV x
    | none => none
  | none => none

theorem zeroV_sound {P : Program} {E : Env} {w : World} {t : TypeId} {v : V} (h : zeroV P t = some v) : ∃ x, (zeroValue t).run P w = .ok x w ∧ R E w v x := by
  unfold zeroV at h
  split at h
  · rename_i i hi
    split at h
    · rename_i cs hz
      split at h <;> simp at h
      rename_i vs hv
      subst h
      exact ⟨.agg cs, by simp [zeroValue, typeInfo, hi, hz], by simp only [R]; exact ⟨cs, rfl, constVL_sound hv⟩⟩
    · rename_i x _ hz
      exact ⟨x, by simp [zeroValue, typeInfo, hi, hz], constV_sound h⟩
    · simp at h
  · simp at h

/-- What a map holds. -/
def mapKVs (M : Heap) : V → Option (List (V × V))
  | .nilm => some []
  | .map o => match M o with
    | some (.map kvs) => some kvs
    | _ => none
  | _ => none

def lookupV (P : Program) (M : Heap) (t : TypeId) (m key : V) (ok : Bool) : Option V :=
  match P.underlying t with
  | some (.map kt et) =>
    match P.underlying kt, mapKVs M m with
    | some d, some kvs =>
      if keyKind d key then
        match findKV key kvs 0 with
        | some (some (_, v)) => some (if ok then .tup [v, .bool true] else v)
        | some none => match zeroV P et with
          | some z => some (if ok then .tup [z, .bool false] else z)
          | none => none
        | none => none
      else none
    | _, _ => none
  | _ => none

theorem lookupV_sound {P : Program} {E : Env} {w : World} {M : Heap} {t : TypeId} {m key v : V} {ok : Bool} {x y : Value} (h : lookupV P M t m key ok = some v) (hm : RH E w M) (hx : RO E w m x) (hy0 : RO E w key y) :
    ∃ z, (Instr.lookup t x y ok).run P w = .ok z w ∧ R E w v z := by
  unfold lookupV at h
  split at h
  case h_2 => simp at h
  rename_i kt et hu
  split at h
  case h_2 => simp at h
  rename_i d kvs hd hkv
  split at h
  case isFalse => simp at h
  rename_i hk
  have hy : R E w key y := hy0.toR (by cases key <;> first | rfl | (cases d <;> simp [keyKind] at hk))
  have hes : ∃ es : Array MapEntry, RKV E w kvs es.toList ∧ (x = .map none ∧ es = #[] ∨ ∃ b clock, x = .map (some b) ∧ w.heap[b]? = some (.map es clock)) := by
    unfold mapKVs at hkv
    split at hkv
    · simp at hkv; subst hkv; simp only [RO, R] at hx; subst hx; exact ⟨#[], by simp [RKV], .inl ⟨rfl, rfl⟩⟩
    · rename_i o
      split at hkv <;> simp at hkv
      rename_i kvs' ho
      subst hkv
      simp only [RO, R] at hx
      obtain ⟨b, hb, rfl⟩ := hx
      obtain ⟨b', hb', es, clock, hh, hr, _⟩ := hm o _ ho
      rw [hb] at hb'; cases hb'
      exact ⟨es, hr, .inr ⟨b, clock, rfl, hh⟩⟩
    · simp at hkv
  obtain ⟨es, hre, hrun⟩ := hes
  have hck := checkKey_ok (P := P) (w := w) hd hk hy es.isEmpty
  have hget : ∀ b clock, w.heap[b]? = some (.map es clock) → (getObj b).run P w = .ok (.map es clock) w := fun b clock hh => by simp [getObj, Sem.run, hh]
  have hfk : ∀ r, Instr.findNow d y es.toList 0 = some r → (Instr.findKey kt y es.toList).run P w = .ok r w := by
    intro r hr
    simp [Instr.findKey, run_underlying hd, hr]
  split at h
  · rename_i j v' hf
    obtain ⟨z, g1, g2, _⟩ := findKV_sound hk hy kvs es.toList 0 _ hf hre
    simp at h
    refine ⟨if ok then .tuple #[z, .bool true] else z, ?_, ?_⟩
    · have hk := hfk _ g1
      rcases hrun with ⟨rfl, rfl⟩ | ⟨b, clock, rfl, hh⟩
      · simp at hck hk
        cases ok <;> simp [Instr.lookup, run_underlying hu, hck, hk]
      · cases ok <;> simp [Instr.lookup, run_underlying hu, hget _ _ hh, hck, hk]
    · subst h; cases ok
      · simpa using g2
      · simp only [if_true, R]; exact ⟨_, rfl, by simp [RL, R, g2]⟩
  · rename_i hf
    have g1 := findKV_sound hk hy kvs es.toList 0 _ hf hre
    split at h <;> simp at h
    rename_i z hz
    obtain ⟨z', hz1, hz2⟩ := zeroV_sound (P := P) (E := E) (w := w) hz
    refine ⟨if ok then .tuple #[z', .bool false] else z', ?_, ?_⟩
    · have hk := hfk _ g1
      rcases hrun with ⟨rfl, rfl⟩ | ⟨b, clock, rfl, hh⟩
      · simp at hck hk
        cases ok <;> simp [Instr.lookup, run_underlying hu, hck, hk, hz1]
      · cases ok <;> simp [Instr.lookup, run_underlying hu, hget _ _ hh, hck, hk, hz1]
    · subst h; cases ok
      · simpa using hz2
      · simp only [if_true, R]; exact ⟨_, rfl, by simp [RL, R, hz2]⟩
  · simp at h
end Go.Eng

/- The engine, part 5: 'evalQ', one step of whatever leaves memory alone, and its soundness. -/
namespace Go.Eng
set_option linter.unusedSimpArgs false
set_option linter.unusedVariables false

def opvs (fr : Nat → V) : List Operand → Option (Prop × List V)
  | [] => some (True, [])
  | x :: xs =>
    match opv fr x, opvs fr xs with
    | some (g, v), some (g', vs) => some (g ∧ v.tag < 22 ∧ g', v :: vs)
    | _, _ => none

theorem RO.of_tag {E : Env} {w : World} {v : V} {x : Value} (h : RO E w v x) (ht : v.tag < 22) : R E w v x := h.toR (by cases v <;> first | rfl | (simp [V.tag] at ht))

theorem opvs_sound {E : Env} {w : World} {fr : Nat → V} {a : Act} (hf : FR E w fr a.tmps) : ∀ {xs : List Operand} {c : Prop} {vs : List V}, opvs fr xs = some (c, vs) → c → RL E w vs (xs.map a.eval)
  | [], c, vs, h, hc => by simp [opvs] at h; obtain ⟨_, rfl⟩ := h; simp [RL]
  | x :: xs, c, vs, h, hc => by
    simp only [opvs] at h
    split at h <;> simp at h
    rename_i g v g' vs' h1 h2
    obtain ⟨e, rfl⟩ := h
    obtain ⟨k1, k3, k2⟩ := e.2 hc
    simp only [List.map_cons, RL]
    exact ⟨_, _, rfl, (opv_sound h1 k1 hf).of_tag k3, opvs_sound hf h2 k2⟩

def pickV (g : Prop) (c : Bool) (ra rb : Option (Prop × V)) : Option (Prop × V) :=
  match ra, rb with
  | some (ga, .bool x), some (gb, .bool y) => some (g ∧ (c = true → ga) ∧ (c = false → gb), .bool (bif c then x else y))
  | _, _ =>
    match c with
    | true => match ra with
      | some (ga, v) => some (g ∧ ga, v)
      | none => none
    | false => match rb with
      | some (gb, v) => some (g ∧ gb, v)
      | none => none

def unV (op : UnOp) : V → Option V
  | .bool b => match op with
    | .not => some (.bool (!b))
    | _ => none
  | .int k n => match op with
    | .neg => some (.int k (k.wrap (0 - n)))
    | .xor => some (.int k (bitsV .xor k (if k.signed then -1 else k.max) n))
    | _ => none
  | _ => none

def convV (s d : Option TypeDesc) (v : V) : Option V :=
  match s, d, v with
  | some _, some (.int k), .int _ n => some (.int k (k.wrap n))
  | some _, some .string, .str s => some (.str s)
  | _, _, _ => none

def mxV (isMax : Bool) : V → V → Option (Prop × V)
  | .int k a, .int k' b => some (k = k', .int k (if isMax then (if b > a then b else a) else (if b < a then b else a)))
  | _, _ => none

/-- Fields of a value that is built. -/
def fillV (P : Program) (t : TypeId) (fr : Nat → V) : List (Nat × Operand) → List V → Option (Prop × List V)
  | [], cs => some (True, cs)
  | (i, x) :: ps, cs =>
    match fieldInfo P t i, opv fr x with
    | some (off, T), some (g, v) =>
      if v.cells.length = T.size ∧ off + T.size ≤ cs.length then
        match fillV P t fr ps (cs.take off ++ v.cells ++ cs.drop (off + T.size)) with
        | some (g', r) => some (g ∧ v.tag < 20 ∧ g', r)
        | none => none
      else none
    | _, _ => none

def buildV (P : Program) (t : TypeId) (fr : Nat → V) (ps : List (Nat × Operand)) : Option (Prop × V) :=
  match P.underlying t, zeroV P t with
  | some (.struct fs), some (.agg z) =>
    if fs.toList.all (fun fd => (ti P fd.type).isSome) then
      match fillV P t fr ps z with
      | some (g, cs) => some (g, .agg cs)
      | none => none
    else none
  | _, _ => none

def isFuncFn : V → Bool
  | .fn (.func _) _ _ => true
  | .ptr _ _ | .eref _ _ | .lref _ _ _ | .iface _ _ => true
  | _ => false

/-- One operation that leaves memory alone: the condition under which it does, and its value. -/
def evalQ (P : Program) (M : Heap) (fr : Nat → V) : Op → Option (Prop × V)
  | .move x | .assign x => opv fr x
  | .pick c a b =>
    match opv fr c with
    | some (g, .bool c) => pickV g c (opv fr a) (opv fr b)
    | _ => none
  | .build t ps => buildV P t fr ps.toList
  | .load t a =>
    match ti P t, opv fr a with
    | some T, some (g, v) => match loadA M fr T v with
      | some (g', u) => some (g ∧ g', u)
      | none => none
    | _, _ => none
  | .binOp op t x y _ =>
    match opv fr x, opv fr y with
    | some (g, a), some (g', b) => match opV P op t x y a b with
      | some (g'', v) => some (g ∧ g' ∧ g'', v)
      | none => none
    | _, _ => none
  | .unOp op _ x =>
    match opv fr x with
    | some (g, a) => match unV op a with
      | some v => some (g, v)
      | none => none
    | none => none
  | .convert s d x =>
    match opv fr x with
    | some (g, a) => match convV (P.underlying s) (P.underlying d) a with
      | some v => some (g, v)
      | none => none
    | none => none
  | .fieldAddr t x f =>
    match fieldInfo P t f, opv fr x with
    | some (off, T), some (g, a) => match addrAdd a off with
      | some v => some (g ∧ T.size ≠ 0, v)
      | none => none
    | _, _ => none
  | .field t x f =>
    match fieldInfo P t f, opv fr x with
    | some (off, T), some (g, .agg cs) => match loadV T cs off with
      | some v => some (g, v)
      | none => none
    | _, _ => none
  | .indexAddr t x i =>
    match P.underlying t, opv fr x, opv fr i with
    | some (.slice e), some (g, .lst es), some (g', .int _ n) => match ti P e with
      | some T => some (g ∧ g' ∧ 0 ≤ n ∧ n < es.length ∧ (es.getD n.toNat []).length = T.size, .eref (es.getD n.toNat []) 0)
      | none => none
    | some (.slice e), some (g, .sli o off len _), some (g', .int _ n) => match ti P e with
      | some T => some (g ∧ g' ∧ 0 ≤ n ∧ n < len, .ptr o (off + n.toNat * T.size))
      | none => none
    | some (.array len e), some (g, a), some (g', .int _ n) => match ti P e with
      | some T => match addrAdd a (n.toNat * T.size) with
        | some v => some (g ∧ g' ∧ 0 ≤ n ∧ n < len, v)
        | none => none
      | none => none
    | _, _, _ => none
  | .index t x i =>
    match P.underlying t, opv fr x, opv fr i with
    | some .string, some (g, .str s), some (g', .int _ n) => some (g ∧ g' ∧ 0 ≤ n ∧ n < s.length, .int .u8 (s.getD n.toNat 0).toNat)
    | _, _, _ => none
  | .slice t x lo hi none =>
    match opv fr x, boundV fr lo, boundV fr hi with
    | some (g, a), some (g1, l), some (g2, h) => match sliceV P t a l h with
      | some (g3, v) => some (g ∧ g1 ∧ g2 ∧ g3, v)
      | none => none
    | _, _, _ => none
  | .slice t x lo hi (some mx) =>
    match opv fr x, boundV fr lo, boundV fr hi, boundV fr (some mx) with
    | some (g, a), some (g1, l), some (g2, h), some (g3, m) => match slice0V P t a l h m with
      | some v => some (g ∧ g1 ∧ g2 ∧ g3, v)
      | none => none
    | _, _, _, _ => none
  | .lookup t m k ok =>
    match opv fr m, opv fr k with
    | some (g, m), some (g', k) => match lookupV P M t m k ok with
      | some v => some (g ∧ g', v)
      | none => none
    | _, _ => none
  | .extract x i =>
    match opv fr x with
    | some (g, .tup vs) => match vs[i]? with
      | some v => some (g, v)
      | none => none
    | _ => none
  | .makeFunc f first cap =>
    match opvs fr first.toList, opvs fr cap.toList with
    | some (g, vs), some (g', us) => some (g ∧ g', .fn f vs us)
    | _, _ => none
  | .makeInterface t x =>
    match P.underlying t, opv fr x with
    | some (.interface _), _ => none
    | some _, some (g, v) => some (g ∧ v.tag < 22, .iface t v)
    | _, _ => none
  | .nilCheck x =>
    match opv fr x with
    | some (g, v) => if isFuncFn v then some (g, v) else none
    | none => none
  | .call ⟨.builtin .len, args, ts⟩ =>
    match args[0]?, ts[0]? with
    | some x, some t => match opv fr x, P.underlying t with
      | some (g, .str s), some .string => some (g, .int .i64 s.length)
      | some (g, .lst es), some (.slice _) => some (g, .int .i64 es.length)
      | some (g, .sli _ _ n _), some (.slice _) => some (g, .int .i64 n)
      | some (g, .lrs _ _ _ n), some (.slice _) => some (g, .int .i64 n)
      | some (g, .nils), some (.slice _) => some (g, .int .i64 0)
      | some (g, m), some (.map _ _) => match mapKVs M m with
        | some kvs => some (g, .int .i64 kvs.length)
        | none => none
      | _, _ => none
    | _, _ => none
  | .call ⟨.builtin .cap, args, ts⟩ =>
    match args[0]?, ts[0]? with
    | some x, some t => match opv fr x, P.underlying t with
      | some (g, .sli _ _ _ n), some (.slice _) => some (g, .int .i64 n)
      | some (g, .nils), some (.slice _) => some (g, .int .i64 0)
      | _, _ => none
    | _, _ => none
  | .call ⟨.builtin .max, args, _⟩ =>
    match args.toList with
    | [x, y] => match opv fr x, opv fr y with
      | some (g, a), some (g', b) => match mxV true a b with
        | some (g'', v) => some (g ∧ g' ∧ g'', v)
        | none => none
      | _, _ => none
    | _ => none
  | .call ⟨.builtin .min, args, _⟩ =>
    match args.toList with
    | [x, y] => match opv fr x, opv fr y with
      | some (g, a), some (g', b) => match mxV false a b with
        | some (g'', v) => some (g ∧ g' ∧ g'', v)
        | none => none
      | _, _ => none
    | _ => none
  | _ => none

theorem fieldInfo_sound {P : Program} {t : TypeId} {f off : Nat} {T : TI} (h : fieldInfo P t f = some (off, T)) : ∃ fs fd, P.underlying t = some (.struct fs) ∧ fs[f]? = some fd ∧ ti P fd.type = some T ∧ fd.offset = off := by
  unfold fieldInfo at h
  split at h
  · rename_i fs hu
    split at h
    · rename_i fd hf
      split at h <;> simp at h
      rename_i T' hT
      obtain ⟨rfl, rfl⟩ := h
      exact ⟨fs, fd, hu, hf, hT, rfl⟩
    · simp at h
  · simp at h

theorem pickV_sound {P : Program} {E : Env} {w : World} {g : Prop} {c : Bool} {ra rb : Option (Prop × V)} {d : Prop} {v : V} {x y : Value} (h : pickV g c ra rb = some (d, v)) (hd : d)
    (ha : ∀ ga u, ra = some (ga, u) → ga → RO E w u x) (hb : ∀ gb u, rb = some (gb, u) → gb → RO E w u y) : g ∧ RO E w v (if c then x else y) := by
  unfold pickV at h
  split at h
  · rename_i ga p gb q
    simp at h; obtain ⟨h1, rfl⟩ := h
    rw [← h1] at hd
    obtain ⟨hg, h2, h3⟩ := hd
    refine ⟨hg, ?_⟩
    cases c
    · simpa using hb _ _ rfl (h3 rfl)
    · simpa using ha _ _ rfl (h2 rfl)
  · split at h
    · split at h <;> simp at h
      rename_i ga u
      obtain ⟨h1, rfl⟩ := h
      rw [← h1] at hd
      exact ⟨hd.1, by simpa using ha _ _ rfl hd.2⟩
    · split at h <;> simp at h
      rename_i ga u
      obtain ⟨h1, rfl⟩ := h
      rw [← h1] at hd
      exact ⟨hd.1, by simpa using hb _ _ rfl hd.2⟩

theorem setRange (off : Nat) : ∀ (ys : List Value) (arr : Array Value) (k : Nat), off + k + ys.length ≤ arr.size →
    ((ys.zipIdx k).foldl (fun cs (c, j) => cs.setIfInBounds (off + j) c) arr).toList = arr.toList.take (off + k) ++ ys ++ arr.toList.drop (off + k + ys.length)
  | [], arr, k, h => by simp
  | y :: ys, arr, k, h => by
    simp only [List.zipIdx_cons, List.foldl_cons, List.length_cons] at *
    rw [setRange off ys _ (k + 1) (by simp; omega)]
    have hlt : off + k < arr.toList.length := by simp; omega
    have e1 : (arr.setIfInBounds (off + k) y).toList.take (off + (k + 1)) = arr.toList.take (off + k) ++ [y] := by
      apply List.ext_getElem?
      intro i
      simp only [Array.toList_setIfInBounds, List.getElem?_take, List.getElem?_append, List.length_take, List.getElem?_set]
      simp at hlt
      have hm : min (off + k) arr.toList.length = off + k := by rw [Nat.min_eq_left]; simp; omega
      rw [hm]
      by_cases h1 : i < off + k
      · rw [if_pos (by omega), if_neg (by omega), if_pos h1, if_pos h1]
      · by_cases h2 : i = off + k
        · subst h2; rw [if_pos (by omega), if_pos rfl, if_neg h1]; simp [hlt]
        · rw [if_neg (by omega), if_neg h1]
          rw [List.getElem?_eq_none]; simp; omega
    have e2 : (arr.setIfInBounds (off + k) y).toList.drop (off + (k + 1) + ys.length) = arr.toList.drop (off + k + (ys.length + 1)) := by
      rw [Array.toList_setIfInBounds, List.drop_set_of_lt (by omega)]
      congr 1; omega
    rw [e1, e2]; simp

theorem R.cells' {E : Env} {w : World} {v : V} {x : Value} (ht : v.tag < 20) (h : R E w v x) : RL E w v.cells x.cells.toList :=
  R.cells (fun e => by subst e; simp [V.tag] at ht) h

theorem fillV_sound {P : Program} {E : Env} {w : World} {t : TypeId} {fs : Array Field} {fr : Nat → V} {a : Act} (hu : P.underlying t = some (.struct fs)) (hf : FR E w fr a.tmps)
    (places : Array (Nat × Nat)) (hp : ∀ (i : Nat) (fd : Field) (T : TI), fs[i]? = some fd → ti P fd.type = some T → places[i]? = some (fd.offset, T.size)) :
    ∀ (ps : List (Nat × Operand)) (cs : List V) (arr : Array Value) (c : Prop) (r : List V), fillV P t fr ps cs = some (c, r) → c → RL E w cs arr.toList →
      ∃ out : Array Value, Instr.fill (places[·]?) arr (ps.map fun p => (p.1, a.eval p.2)) = some out ∧ RL E w r out.toList
  | [], cs, arr, c, r, h, hc, hl => by simp [fillV] at h; obtain ⟨_, rfl⟩ := h; exact ⟨arr, by simp [Instr.fill], hl⟩
  | (i, x) :: ps, cs, arr, c, r, h, hc, hl => by
    unfold fillV at h
    split at h
    case h_2 => simp at h
    rename_i off T g v h1 h2
    split at h
    case isFalse => simp at h
    rename_i hsz
    split at h <;> simp at h
    rename_i g' r' h3
    obtain ⟨e, rfl⟩ := h
    rw [← e] at hc
    obtain ⟨k1, k2, k3⟩ := hc
    have hv := (opv_sound h2 k1 hf).of_tag (by omega)
    have hcells := R.cells' k2 hv
    obtain ⟨fs', fd, hu', hfd, hT, rfl⟩ := fieldInfo_sound h1
    rw [hu] at hu'; cases hu'
    have hpl := hp i fd T hfd hT
    have hlen := hcells.length
    have hlen2 := hl.length
    simp at hlen hlen2
    have hxs : (a.eval x).cells.size = T.size := by omega
    have hnew := setRange fd.offset (a.eval x).cells.toList arr 0 (by simp; omega)
    simp only [Nat.add_zero, Array.length_toList, hxs] at hnew
    have hfold : (a.eval x).cells.zipIdx.foldl (fun cs (c, j) => cs.setIfInBounds (fd.offset + j) c) arr = ((a.eval x).cells.toList.zipIdx 0).foldl (fun cs (c, j) => cs.setIfInBounds (fd.offset + j) c) arr := by
      rw [← Array.foldl_toList, Array.toList_zipIdx]
    obtain ⟨out, ho, hr⟩ := fillV_sound hu hf places hp ps _ (((a.eval x).cells.toList.zipIdx 0).foldl (fun cs (c, j) => cs.setIfInBounds (fd.offset + j) c) arr) g' r' h3 k3 (by
      rw [hnew]
      have ha := (hl.take fd.offset).append hcells
      exact ha.append (hl.drop (fd.offset + T.size)))
    refine ⟨out, ?_, hr⟩
    simp only [List.map_cons, Instr.fill, hpl]
    rw [if_neg (by
      simp only [hxs, ne_eq, not_true_eq_false, false_or]
      simp; omega)]
    rw [hfold]
    exact ho
end Go.Eng

/- The engine, part 6: soundness of 'evalQ'. -/
namespace Go.Eng
set_option linter.unusedSimpArgs false
set_option linter.unusedVariables false

section
variable {P : Program} {E : Env} {w : World} {M : Heap} {fr : Nat → V} {a : Act}

theorem mapM_places (fs : Array Field) (h : ∀ fd ∈ fs.toList, (ti P fd.type).isSome = true) : (fs.mapM (fun f => do pure (f.offset, ← sizeOf f.type) : Field → Sem (Nat × Nat))).run P w =
    .ok (fs.map fun f => (f.offset, ((ti P f.type).map (·.size)).getD 0)) w := by
  rw [Array.mapM_eq_mapM_toList]
  have key : ∀ l : List Field, (∀ fd ∈ l, (ti P fd.type).isSome = true) → (l.mapM (fun f => do pure (f.offset, ← sizeOf f.type) : Field → Sem (Nat × Nat))).run P w = .ok (l.map fun f => (f.offset, ((ti P f.type).map (·.size)).getD 0)) w := by
    intro l
    induction l with
    | nil => intro _; simp
    | cons f l ih =>
      intro hl
      have hf := hl f (by simp)
      obtain ⟨T, hT⟩ := Option.isSome_iff_exists.1 hf
      rw [List.mapM_cons]
      simp only [Sem.run_bind, Sem.run_pure, run_sizeOf hT, Result.andThen_ok, ih (fun fd hfd => hl fd (by simp [hfd]))]
      simp [hT]
  rw [Sem.run_map, key fs.toList h]
  simp only [Result.andThen_ok]
  congr 1
  apply Array.ext'
  simp

theorem buildV_sound {t : TypeId} {ps : Array (Nat × Operand)} {c : Prop} {v : V} (h : buildV P t fr ps.toList = some (c, v)) (hc : c) (hf : FR E w fr a.tmps) :
    ∃ x, (Instr.build t (ps.map fun (i, x) => (i, a.eval x))).run P w = .ok x w ∧ R E w v x := by
  unfold buildV at h
  split at h
  case h_2 => simp at h
  rename_i fs z hu hz
  split at h
  case isFalse => simp at h
  rename_i hall
  split at h <;> simp at h
  rename_i g cs hfill
  obtain ⟨e, rfl⟩ := h
  obtain ⟨zx, hz1, hz2⟩ := zeroV_sound (P := P) (E := E) (w := w) hz
  simp only [R] at hz2
  obtain ⟨zs, rfl, hzl⟩ := hz2
  have hpl := mapM_places (P := P) (w := w) fs (fun fd hfd => List.all_eq_true.1 hall fd hfd)
  obtain ⟨out, ho, hr⟩ := fillV_sound (P := P) hu hf (fs.map fun f => (f.offset, ((ti P f.type).map (·.size)).getD 0)) (fun i fd T h1 h2 => by simp [h1, h2]) ps.toList z zs g cs hfill (by rw [e]; exact hc) hzl
  refine ⟨.agg out, ?_, by simp only [R]; exact ⟨out, rfl, hr⟩⟩
  have hmap : (ps.map fun (p : Nat × Operand) => (p.1, a.eval p.2)).toList = ps.toList.map fun p => (p.1, a.eval p.2) := by simp
  simp only [Instr.build, Sem.run_bind, hz1, Result.andThen_ok, run_underlying hu, hpl]
  simp only [Value.cells]
  have hmap' : (ps.map fun x => match x with | (i, x) => (i, a.eval x)).toList = ps.toList.map fun p => (p.1, a.eval p.2) := by simp
  rw [hmap', ho]
  simp

theorem unV_sound {op : UnOp} {v u : V} {x : Value} (h : unV op v = some u) (hr : RO E w v x) : ∃ y, (Op.unary op x).run P w = .ok y w ∧ R E w u y := by
  unfold unV at h
  split at h
  · simp only [RO, R] at hr; subst hr
    cases op <;> simp at h
    subst h; exact ⟨_, by simp [Op.unary]; rfl, by simp [R]⟩
  · simp only [RO, R] at hr; subst hr
    cases op <;> simp at h
    · subst h; exact ⟨_, by simp [Op.unary, Op.intArith]; rfl, by simp [R]⟩
    · subst h; exact ⟨_, by simp [Op.unary, Op.intBits]; rfl, by simp [R, bitsV]⟩
  · simp at h

theorem convV_sound {s d : TypeId} {v u : V} {x : Value} (h : convV (P.underlying s) (P.underlying d) v = some u) (hr : RO E w v x) : ∃ y, (convert s d x).run P w = .ok y w ∧ R E w u y := by
  unfold convV at h
  split at h
  · rename_i ds k k' n hs hd
    simp at h; subst h
    simp only [RO, R] at hr; subst hr
    refine ⟨.int k (k.wrap n), ?_, by simp [R]⟩
    simp [convert, run_underlying hs, run_underlying hd, Conv.intToInt]
  · rename_i ds s' hs hd
    simp at h; subst h
    simp only [RO, R] at hr; obtain ⟨rfl, hl⟩ := hr
    refine ⟨.string ⟨⟨s'⟩⟩, ?_, by simp [R, hl]⟩
    simp [convert, run_underlying hs, run_underlying hd]
  · simp at h

theorem RKV.length : ∀ {kvs : List (V × V)} {es : List MapEntry}, RKV E w kvs es → kvs.length = es.length
  | [], es, h => by simp [RKV] at h; simp [h]
  | (k, v) :: kvs, es, h => by
    simp only [RKV] at h
    obtain ⟨e, r, rfl, _, _, h3⟩ := h
    simp [RKV.length h3]

theorem lenMap_sound {v : V} {x : Value} {t ty : TypeId} {k e : TypeId} {kvs : List (V × V)} (hd : P.underlying t = some (.map k e)) (hkv : mapKVs M v = some kvs) (hm : RH E w M) (hr : RO E w v x) :
    (Builtin.len_ #[t] ty #[x]).run P w = .ok (.int .i64 kvs.length) w := by
  unfold mapKVs at hkv
  split at hkv
  · simp at hkv; subst hkv; simp only [RO, R] at hr; subst hr
    simp [Builtin.len_, run_underlying hd, goInt]
  · rename_i o
    split at hkv <;> simp at hkv
    rename_i kvs' ho
    subst hkv
    simp only [RO, R] at hr
    obtain ⟨b, hb, rfl⟩ := hr
    obtain ⟨b', hb', es, clock, hh, hre, _⟩ := hm o _ ho
    rw [hb] at hb'; cases hb'
    have hlen := hre.length
    simp [Builtin.len_, run_underlying hd, goInt, getObj, Sem.run, hh, hlen]
  · simp at hkv

theorem mxV_sound {isMax : Bool} {u v r : V} {c : Prop} {x y : Value} (h : mxV isMax u v = some (c, r)) (hc : c) (hx : RO E w u x) (hy : RO E w v y) (ts : Array TypeId) (ty : TypeId) :
    ∃ z, (if isMax then Builtin.max_ ts ty #[x, y] else Builtin.min_ ts ty #[x, y]).run P w = .ok z w ∧ R E w r z := by
  unfold mxV at h
  split at h <;> simp at h
  rename_i k i k' j
  obtain ⟨e, rfl⟩ := h
  simp only [RO, R] at hx hy
  subst hx; subst hy
  cases isMax
  · exact ⟨_, by simp [Builtin.min_, Builtin.min2]; rfl, by simp [R]⟩
  · exact ⟨_, by simp [Builtin.max_, Builtin.max2]; rfl, by simp [R]⟩

/-- WHAT 'evalQ' SAYS, THE MODEL DOES, and the world stays. -/
theorem evalQ_sound {o : Oper} {c : Prop} {v : V} (h : evalQ P M fr o.op = some (c, v)) (hc : c) (hf : FR E w fr a.tmps) (hm : RH E w M) :
    ∃ x, (execOp a.eval o).run P w = .ok (.value x) w ∧ RO E w v x := by
  obtain ⟨dst, op, type, pos, after, guard⟩ := o
  unfold evalQ at h
  split at h
  all_goals subst_vars
  · exact ⟨_, by simp [execOp], opv_sound h hc hf⟩
  · exact ⟨_, by simp [execOp], opv_sound h hc hf⟩
  · -- pick
    rename_i c' x y
    split at h <;> try (simp at h; done)
    rename_i g b hb
    obtain ⟨hg, hr⟩ := pickV_sound (P := P) (E := E) (w := w) (x := a.eval x) (y := a.eval y) h hc (fun ga u e k => opv_sound e k hf) (fun gb u e k => opv_sound e k hf)
    have hb' := opv_sound hb hg hf
    simp only [RO, R] at hb'
    refine ⟨if b then a.eval x else a.eval y, ?_, hr⟩
    simp [execOp, hb', asBool]
  · -- build
    rename_i t ps
    obtain ⟨x, hx, hr⟩ := buildV_sound (P := P) (w := w) h hc hf
    exact ⟨x, by simp only [execOp, Sem.run_bind, hx, Result.andThen_ok, Sem.run_pure], .of_R hr⟩
  · -- load
    rename_i t ad
    split at h <;> try (simp at h; done)
    rename_i T g v' ht ho
    split at h <;> simp at h
    rename_i g' u hl
    obtain ⟨e, rfl⟩ := h
    obtain ⟨k1, k2⟩ := e.2 hc
    obtain ⟨y, hy, hr⟩ := loadA_sound ht hl k2 hf hm (opv_sound ho k1 hf)
    exact ⟨y, by simp only [execOp, Sem.run_bind, hy, Result.andThen_ok, Sem.run_pure], .of_R hr⟩
  · -- binOp
    rename_i op t x y ty
    split at h <;> try (simp at h; done)
    rename_i g u g' u' h1 h2
    split at h <;> simp at h
    rename_i g'' v' h3
    obtain ⟨e, rfl⟩ := h
    obtain ⟨k1, k2, k3⟩ := e.2 hc
    obtain ⟨z, hz, hr⟩ := opV_sound (P := P) (ox := x) (oy := y) h3 k3 (opv_sound h1 k1 hf) (opv_sound h2 k2 hf)
    exact ⟨z, by simp only [execOp]; rw [Sem.run_bind, hz]; simp, .of_R hr⟩
  · -- unOp
    rename_i op t x
    split at h <;> try (simp at h; done)
    rename_i g u h1
    split at h <;> simp at h
    rename_i v' h3
    obtain ⟨e, rfl⟩ := h
    obtain ⟨z, hz, hr⟩ := unV_sound (P := P) h3 (opv_sound h1 (e.2 hc) hf)
    exact ⟨z, by simp only [execOp, Sem.run_bind, hz, Result.andThen_ok, Sem.run_pure], .of_R hr⟩
  · -- convert
    rename_i s d x
    split at h <;> try (simp at h; done)
    rename_i g u h1
    split at h <;> simp at h
    rename_i v' h3
    obtain ⟨e, rfl⟩ := h
    obtain ⟨z, hz, hr⟩ := convV_sound (P := P) h3 (opv_sound h1 (e.2 hc) hf)
    exact ⟨z, by simp only [execOp, Sem.run_bind, hz, Result.andThen_ok, Sem.run_pure], .of_R hr⟩
  · -- fieldAddr
    rename_i t x f
    split at h <;> try (simp at h; done)
    rename_i off T g u h1 h2
    split at h <;> simp at h
    rename_i v' h3
    obtain ⟨e, rfl⟩ := h
    obtain ⟨k1, k2⟩ := e.2 hc
    obtain ⟨fs, fd, hu, hfd, hT, rfl⟩ := fieldInfo_sound h1
    obtain ⟨b, off', hx, hr⟩ := addrAdd_sound h3 (opv_sound h2 k1 hf)
    refine ⟨_, ?_, hr⟩
    simp [execOp, Instr.fieldAt, run_underlying hu, hfd, hx, Instr.sureAddr, fieldPlace, run_sizeOf hT, k2, addr_add]
  · -- field
    rename_i t x f
    split at h <;> try (simp at h; done)
    rename_i off T g cs h1 h2
    split at h <;> simp at h
    rename_i v' h3
    obtain ⟨e, rfl⟩ := h
    obtain ⟨fs, fd, hu, hfd, hT, rfl⟩ := fieldInfo_sound h1
    have hx := opv_sound h2 (e.2 hc) hf
    simp only [RO, R] at hx
    obtain ⟨xs, hx, hl⟩ := hx
    obtain ⟨y, hy, hr⟩ := part_sound hT h3 hl
    exact ⟨y, by simp [execOp, Instr.field, run_underlying hu, hfd, hx, asAgg, hy], .of_R hr⟩
  · -- indexAddr
    rename_i t x i
    split at h <;> try (simp at h; done)
    · rename_i e g es g' k n hu h1 h2
      split at h <;> simp at h
      rename_i T hT
      obtain ⟨e', rfl⟩ := h
      obtain ⟨k1, k2, k3, k4, k5⟩ := e'.2 hc
      have hx := opv_sound h1 k1 hf
      have hi := opv_sound h2 k2 hf
      simp only [RO, R] at hx hi
      obtain ⟨ad, cap, hx, hcap, hmax, hmem⟩ := hx
      have hlt : n.toNat < es.length := by omega
      rcases hmem with rfl | ⟨b, off, sz, rfl, hb, hn, hre⟩
      · simp at hlt
      · have hget : es[n.toNat]? = some (es.getD n.toNat []) := by simp [List.getD, List.getElem?_eq_getElem hlt]
        obtain ⟨g1, g2⟩ := hre.get hget
        simp only [List.getD] at k5 g1
        have hsz : sz = T.size := by rw [← g1]; simpa using k5
        subst hsz
        refine ⟨.pointer (some ⟨b, off + n.toNat * T.size, none⟩), ?_, ?_⟩
        · simp [execOp, Instr.indexAt, hx, hi, asIntOf, run_underlying hu, k3, k4, run_sizeOf hT, addr_add]
        · simp only [RO, R]
          exact ⟨b, off + n.toNat * T.size, rfl, hb, hn, by simpa [List.getD] using g2⟩
    · rename_i e g o off len cap g' k n hu h1 h2
      split at h <;> simp at h
      rename_i T hT
      obtain ⟨e', rfl⟩ := h
      obtain ⟨k1, k2, k3, k4⟩ := e'.2 hc
      have hx := opv_sound h1 k1 hf
      have hi := opv_sound h2 k2 hf
      simp only [RO, R] at hx hi
      obtain ⟨b, hb, hx, hle, hmax⟩ := hx
      refine ⟨.pointer (some ⟨b, off + n.toNat * T.size, none⟩), ?_, ?_⟩
      · simp [execOp, Instr.indexAt, hx, hi, asIntOf, run_underlying hu, k3, k4, run_sizeOf hT, addr_add]
      · simp only [RO, R]
        exact ⟨b, hb, rfl⟩
    · rename_i len e g u g' k n hu h1 h2
      split at h <;> try (simp at h; done)
      rename_i T hT
      split at h <;> simp at h
      rename_i v' h3
      obtain ⟨e', rfl⟩ := h
      obtain ⟨k1, k2, k3, k4⟩ := e'.2 hc
      have hi := opv_sound h2 k2 hf
      simp only [RO, R] at hi
      obtain ⟨b, off, hx, hr⟩ := addrAdd_sound h3 (opv_sound h1 k1 hf)
      refine ⟨_, ?_, hr⟩
      simp [execOp, Instr.indexAt, hx, hi, asIntOf, run_underlying hu, Instr.sureAddr, k3, k4, run_sizeOf hT, addr_add]
  · -- index
    rename_i t x i
    split at h <;> try (simp at h; done)
    rename_i g s g' k n hu h1 h2
    simp at h
    obtain ⟨e', rfl⟩ := h
    obtain ⟨k1, k2, k3, k4⟩ := e'.2 hc
    have hx := opv_sound h1 k1 hf
    have hi := opv_sound h2 k2 hf
    simp only [RO, R] at hx hi
    obtain ⟨hx, hl⟩ := hx
    have hlt : n.toNat < s.length := by omega
    refine ⟨.int .u8 (s[n.toNat]'hlt).toNat, ?_, by simp [RO, R, List.getD, List.getElem?_eq_getElem hlt]⟩
    have hb : (⟨⟨s⟩⟩ : ByteArray)[n.toNat]? = some (s[n.toNat]'hlt) := by
      rw [getElem?_pos _ _ (by simpa [ByteArray.size] using hlt)]
      rfl
    simp [execOp, Instr.index, hx, hi, asIntOf, run_underlying hu, k3, hb]
  · -- slice
    rename_i t x lo hi
    split at h <;> try (simp at h; done)
    rename_i g u g1 l g2 hh h1 h2 h3
    split at h <;> simp at h
    rename_i g3 v' h4
    obtain ⟨e', rfl⟩ := h
    obtain ⟨k1, k2, k3, k4⟩ := e'.2 hc
    obtain ⟨b1, b2⟩ := boundV_sound h2 k2 hf
    obtain ⟨b3, b4⟩ := boundV_sound h3 k3 hf
    obtain ⟨y, hy, hr⟩ := sliceV_sound (P := P) h4 k4 (opv_sound h1 k1 hf) b1 b2 b3 b4
    exact ⟨y, by simp only [execOp, Sem.run_bind, Option.map_none]; rw [hy]; simp, hr⟩
  · -- slice, with its room
    rename_i t x lo hi mx
    split at h <;> try (simp at h; done)
    rename_i g u g1 l g2 hh g3 mm h1 h2 h3 h4
    split at h <;> simp at h
    rename_i v' h5
    obtain ⟨e', rfl⟩ := h
    obtain ⟨k1, k2, k3, k4⟩ := e'.2 hc
    obtain ⟨b1, b2⟩ := boundV_sound h2 k2 hf
    obtain ⟨b3, _⟩ := boundV_sound h3 k3 hf
    obtain ⟨b5, _⟩ := boundV_sound h4 k4 hf
    obtain ⟨y, hy, hr⟩ := slice0V_sound (P := P) h5 (opv_sound h1 k1 hf) b1 b2 b3 b5
    exact ⟨y, by simp only [execOp, Sem.run_bind]; rw [hy]; simp, hr⟩
  · -- lookup
    rename_i t m k ok
    split at h <;> try (simp at h; done)
    rename_i g mv g' kv h1 h2
    split at h <;> simp at h
    rename_i v' h3
    obtain ⟨e', rfl⟩ := h
    obtain ⟨k1, k2⟩ := e'.2 hc
    obtain ⟨y, hy, hr⟩ := lookupV_sound h3 hm (opv_sound h1 k1 hf) (opv_sound h2 k2 hf)
    exact ⟨y, by simp only [execOp, Sem.run_bind, hy, Result.andThen_ok, Sem.run_pure], .of_R hr⟩
  · -- extract
    rename_i x i
    split at h <;> try (simp at h; done)
    rename_i g vs h1
    split at h <;> simp at h
    rename_i v' h3
    obtain ⟨e', rfl⟩ := h
    have hx := opv_sound h1 (e'.2 hc) hf
    simp only [RO, R] at hx
    obtain ⟨xs, hx, hl⟩ := hx
    obtain ⟨y, hy, hr⟩ := hl.get h3
    have hy' : xs[i]? = some y := by simpa using hy
    exact ⟨y, by simp [execOp, Instr.extract, hx, hy'], .of_R hr⟩
  · -- makeFunc
    rename_i f first cap
    split at h <;> try (simp at h; done)
    rename_i g vs g' us h1 h2
    simp at h
    obtain ⟨e', rfl⟩ := h
    obtain ⟨k1, k2⟩ := e'.2 hc
    refine ⟨.func f (first.map a.eval) (cap.map a.eval), by simp [execOp, Instr.makeFunc], ?_⟩
    simp only [RO, R]
    exact ⟨_, _, rfl, by simpa using opvs_sound hf h1 k1, by simpa using opvs_sound hf h2 k2⟩
  · -- makeInterface
    rename_i t x
    split at h <;> try (simp at h; done)
    rename_i d g u hnot hu h1
    simp at h
    obtain ⟨e', rfl⟩ := h
    have hx := (opv_sound h1 (e'.2 hc).1 hf).of_tag (e'.2 hc).2
    refine ⟨.iface t (a.eval x), ?_, by simp only [RO, R]; exact ⟨_, rfl, hx⟩⟩
    simp only [execOp, Instr.makeInterface, Sem.run_bind, run_underlying hu, Result.andThen_ok]
    cases d <;> first | (simp; done) | (exact absurd hu (hnot _))
  · -- nilCheck
    rename_i x
    split at h <;> try (simp at h; done)
    rename_i g u h1
    split at h <;> simp at h
    rename_i hfn
    obtain ⟨e', rfl⟩ := h
    have hx := opv_sound h1 (e'.2 hc) hf
    refine ⟨a.eval x, ?_, hx⟩
    unfold isFuncFn at hfn
    split at hfn <;> try (simp at hfn; done)
    all_goals
      simp only [RO, R] at hx
      first
        | (obtain ⟨_, _, hx, _⟩ := hx; simp [execOp, hx]; done)
        | (obtain ⟨_, _, hx⟩ := hx; simp [execOp, hx]; done)
        | (obtain ⟨_, hx, _⟩ := hx; simp [execOp, hx]; done)
  · -- len
    rename_i args ts
    split at h <;> try (simp at h; done)
    rename_i x t hx ht
    have hrun : ∀ y, (Builtin.len_ #[t] type #[a.eval x]).run P w = .ok y w → (execOp a.eval ⟨dst, .call ⟨.builtin .len, args, ts⟩, type, pos, after, guard⟩).run P w = .ok (.value y) w := by
      intro y hy
      have h0 : (Builtin.len_ ts type (args.map a.eval)).run P w = .ok y w := by
        unfold Builtin.len_ at hy ⊢
        simp only [List.getElem?_toArray, Array.getElem?_map, hx, ht, Option.map_some] at hy ⊢
        simpa using hy
      simp [execOp, resolve, invoke, builtin, h0]
    split at h <;> try (simp at h; done)
    · rename_i g s h1 hu
      simp at h; obtain ⟨e', rfl⟩ := h
      have hv := opv_sound h1 (e'.2 hc) hf
      simp only [RO, R] at hv
      refine ⟨.int .i64 s.length, hrun _ ?_, by simp [RO, R]⟩
      have hsz : (⟨⟨s⟩⟩ : ByteArray).size = s.length := rfl
      simp [Builtin.len_, run_underlying hu, goInt, hv.1, hsz]
    · rename_i g es e h1 hu
      simp at h; obtain ⟨e', rfl⟩ := h
      have hv := opv_sound h1 (e'.2 hc) hf
      simp only [RO, R] at hv
      obtain ⟨b, cap, hv, _⟩ := hv
      refine ⟨.int .i64 es.length, hrun _ ?_, by simp [RO, R]⟩
      simp [Builtin.len_, run_underlying hu, goInt, hv]
    · rename_i g o off n cap e h1 hu
      simp at h; obtain ⟨e', rfl⟩ := h
      have hv := opv_sound h1 (e'.2 hc) hf
      simp only [RO, R] at hv
      obtain ⟨b, _, hv, _⟩ := hv
      refine ⟨.int .i64 n, hrun _ ?_, by simp [RO, R]⟩
      simp [Builtin.len_, run_underlying hu, goInt, hv]
    · rename_i g s0 g0 off n e h1 hu
      simp at h; obtain ⟨e', rfl⟩ := h
      have hv := opv_sound h1 (e'.2 hc) hf
      simp only [RO] at hv
      obtain ⟨b, _, hv, _⟩ := hv
      refine ⟨.int .i64 n, hrun _ ?_, by simp [RO, R]⟩
      simp [Builtin.len_, run_underlying hu, goInt, hv]
    · rename_i g e h1 hu
      simp at h; obtain ⟨e', rfl⟩ := h
      have hv := opv_sound h1 (e'.2 hc) hf
      simp only [RO, R] at hv
      refine ⟨.int .i64 0, hrun _ ?_, by simp [RO, R]⟩
      simp [Builtin.len_, run_underlying hu, goInt, hv]
    · rename_i g m k e h1 hu
      split at h <;> simp at h
      rename_i kvs hkv
      obtain ⟨e', rfl⟩ := h
      exact ⟨.int .i64 kvs.length, hrun _ (lenMap_sound hu hkv hm (opv_sound h1 (e'.2 hc) hf)), by simp [RO, R]⟩
  · -- cap
    rename_i args ts
    split at h <;> try (simp at h; done)
    rename_i x t hx ht
    have hrun : ∀ y, (Builtin.cap_ #[t] type #[a.eval x]).run P w = .ok y w → (execOp a.eval ⟨dst, .call ⟨.builtin .cap, args, ts⟩, type, pos, after, guard⟩).run P w = .ok (.value y) w := by
      intro y hy
      have h0 : (Builtin.cap_ ts type (args.map a.eval)).run P w = .ok y w := by
        unfold Builtin.cap_ at hy ⊢
        simp only [List.getElem?_toArray, Array.getElem?_map, hx, ht, Option.map_some] at hy ⊢
        simpa using hy
      simp [execOp, resolve, invoke, builtin, h0]
    split at h <;> try (simp at h; done)
    · rename_i g o off n cap e h1 hu
      simp at h; obtain ⟨e', rfl⟩ := h
      have hv := opv_sound h1 (e'.2 hc) hf
      simp only [RO, R] at hv
      obtain ⟨b, _, hv, _⟩ := hv
      refine ⟨.int .i64 cap, hrun _ ?_, by simp [RO, R]⟩
      simp [Builtin.cap_, run_underlying hu, goInt, hv]
    · rename_i g e h1 hu
      simp at h; obtain ⟨e', rfl⟩ := h
      have hv := opv_sound h1 (e'.2 hc) hf
      simp only [RO, R] at hv
      refine ⟨.int .i64 0, hrun _ ?_, by simp [RO, R]⟩
      simp [Builtin.cap_, run_underlying hu, goInt, hv]
  · -- max
    rename_i args ts
    split at h <;> try (simp at h; done)
    rename_i x y hxy
    split at h <;> try (simp at h; done)
    rename_i g u g' u' h1 h2
    split at h <;> simp at h
    rename_i g'' v' h3
    obtain ⟨e', rfl⟩ := h
    obtain ⟨k1, k2, k3⟩ := e'.2 hc
    obtain ⟨z, hz, hr⟩ := mxV_sound (P := P) (isMax := true) h3 k3 (opv_sound h1 k1 hf) (opv_sound h2 k2 hf) ts type
    have ha : args = #[x, y] := by rw [← Array.toArray_toList (xs := args), hxy]
    subst ha
    refine ⟨z, ?_, .of_R hr⟩
    simp at hz
    simp [execOp, resolve, invoke, builtin, hz]
  · -- min
    rename_i args ts
    split at h <;> try (simp at h; done)
    rename_i x y hxy
    split at h <;> try (simp at h; done)
    rename_i g u g' u' h1 h2
    split at h <;> simp at h
    rename_i g'' v' h3
    obtain ⟨e', rfl⟩ := h
    obtain ⟨k1, k2, k3⟩ := e'.2 hc
    obtain ⟨z, hz, hr⟩ := mxV_sound (P := P) (isMax := false) h3 k3 (opv_sound h1 k1 hf) (opv_sound h2 k2 hf) ts type
    have ha : args = #[x, y] := by rw [← Array.toArray_toList (xs := args), hxy]
    subst ha
    refine ⟨z, ?_, .of_R hr⟩
    simp at hz
    simp [execOp, resolve, invoke, builtin, hz]
  · simp at h
end
end Go.Eng

/- The engine, part 7: what is kept when memory grows or is written. -/
namespace Go.Eng
set_option linter.unusedSimpArgs false
set_option linter.unusedVariables false

/-- A state: what stands in the slots, what lies on the heap, and how many variables each slot has had. -/
structure St where
  fr : Nat → V
  M : Heap
  gen : Nat → Nat

def upd (fr : Nat → V) (d : Nat) (v : V) : Nat → V := fun s => if s = d then v else fr s
def bump (gen : Nat → Nat) (d : Nat) : Nat → Nat := fun s => if s = d then gen d + 1 else gen s
def updH (M : Heap) (o : Nat) (h : HObj) : Heap := fun k => if k = o then some h else M k

/-- A world 'w', of which a function that was entered in 'w0' may be proud. -/
structure Inv (E0 : Env) (w0 : World) (E : Env) (w : World) : Prop where
  size : w0.heap.size ≤ w.heap.size
  obm : ∀ o b, E0.ob o = some b → E.ob o = some b
  obn : ∀ o b, E.ob o = some b → b < w0.heap.size → E0.ob o = some b
  bxn : ∀ s g b, E.bx s g = some b → w0.heap.size ≤ b
  ex : E.ex = E0.ex
  exlt : ∀ b, E0.ex b → b < w0.heap.size
  keep : ∀ b, b < w0.heap.size → (∀ o, E0.ob o ≠ some b) → w.heap[b]? = w0.heap[b]?
  os : w.os = w0.os
  tape : w.tape = w0.tape
  output : w.output = w0.output
  oblt : ∀ o b, E.ob o = some b → b < w.heap.size
  bxlt : ∀ s g b, E.bx s g = some b → b < w.heap.size
  obinj : ∀ o o' b, E.ob o = some b → E.ob o' = some b → o = o'
  bxinj : ∀ s g s' g' b, E.bx s g = some b → E.bx s' g' = some b → s = s' ∧ g = g'
  obbx : ∀ o s g b, E.ob o = some b → E.bx s g ≠ some b
  fin : ∃ N, ∀ o, N ≤ o → E.ob o = none

/-- All blocks that were there are as they were. -/
structure Grow (E : Env) (w : World) (E' : Env) (w' : World) : Prop where
  later : Later E w E' w'
  bx : ∀ s g b, E.bx s g = some b → E'.bx s g = some b
  all : ∀ b, b < w.heap.size → w'.heap[b]? = w.heap[b]?

section
variable {E0 E E' : Env} {w0 w w' : World}

theorem lt_of_heap {b : Nat} {o : Obj} (h : w.heap[b]? = some o) : b < w.heap.size := by
  rcases Nat.lt_or_ge b w.heap.size with h' | h'
  · exact h'
  · simp [Array.getElem?_eq_none h'] at h

theorem RS.grow (h : Grow E w E' w') {t : Nat} : ∀ {v : V} {x : Value}, RS E w t v x → RS E' w' t v x
  | .box g cs, x, hr => by
    simp only [RS] at hr ⊢
    obtain ⟨b, arr, ty, h1, rfl, h3, h4⟩ := hr
    exact ⟨b, arr, ty, h.bx _ _ _ h1, rfl, by rw [h.all b (lt_of_heap h3)]; exact h3, RL.later h.later _ _ h4⟩
  | .itr g s pos, x, hr => by
    simp only [RS] at hr ⊢
    obtain ⟨b, h1, rfl, h3, h4⟩ := hr
    exact ⟨b, h.bx _ _ _ h1, rfl, by rw [h.all b (lt_of_heap h3)]; exact h3, h4⟩
  | .lref s g off, x, hr => by
    simp only [RS] at hr ⊢
    obtain ⟨b, h1, rfl⟩ := hr
    exact ⟨b, h.bx _ _ _ h1, rfl⟩
  | .when c v, x, hr => by
    simp only [RS] at hr ⊢
    exact ⟨fun hc => RS.grow h (hr.1 hc), hr.2⟩
  | .any, x, hr => by simp only [RS] at hr ⊢; exact R.later h.later _ _ hr
  | .bool _, x, hr => by simp only [RS] at hr ⊢; exact R.later h.later _ _ hr
  | .int _ _, x, hr => by simp only [RS] at hr ⊢; exact R.later h.later _ _ hr
  | .str _, x, hr => by simp only [RS] at hr ⊢; exact R.later h.later _ _ hr
  | .agg _, x, hr => by simp only [RS] at hr ⊢; exact R.later h.later _ _ hr
  | .tup _, x, hr => by simp only [RS] at hr ⊢; exact R.later h.later _ _ hr
  | .lst _, x, hr => by simp only [RS] at hr ⊢; exact R.later h.later _ _ hr
  | .nilp, x, hr => by simp only [RS] at hr ⊢; exact R.later h.later _ _ hr
  | .ptr _ _, x, hr => by simp only [RS] at hr ⊢; exact R.later h.later _ _ hr
  | .eref _ _, x, hr => by simp only [RS] at hr ⊢; exact R.later h.later _ _ hr
  | .nilm, x, hr => by simp only [RS] at hr ⊢; exact R.later h.later _ _ hr
  | .map _, x, hr => by simp only [RS] at hr ⊢; exact R.later h.later _ _ hr
  | .fn _ _ _, x, hr => by simp only [RS] at hr ⊢; exact R.later h.later _ _ hr
  | .nilf, x, hr => by simp only [RS] at hr ⊢; exact R.later h.later _ _ hr
  | .iface _ _, x, hr => by simp only [RS] at hr ⊢; exact R.later h.later _ _ hr
  | .nili, x, hr => by simp only [RS] at hr ⊢; exact R.later h.later _ _ hr
  | .nils, x, hr => by simp only [RS] at hr ⊢; exact R.later h.later _ _ hr
  | .emp, x, hr => by simp only [RS] at hr ⊢; exact R.later h.later _ _ hr
  | .sli _ _ _ _, x, hr => by simp only [RS] at hr ⊢; exact R.later h.later _ _ hr
  | .lrs s g off len, x, hr => by
    simp only [RS] at hr ⊢
    obtain ⟨b, h1, h2, h3⟩ := hr
    exact ⟨b, h.bx _ _ _ h1, h2, h3⟩

theorem FR.grow (h : Grow E w E' w') {fr : Nat → V} {tmps : Array Value} (hf : FR E w fr tmps) : FR E' w' fr tmps := fun t => (hf t).grow h

theorem RKV.later (h : Later E w E' w') : ∀ {kvs : List (V × V)} {es : List MapEntry}, RKV E w kvs es → RKV E' w' kvs es
  | [], es, hr => by simpa [RKV] using hr
  | (k, v) :: kvs, es, hr => by
    simp only [RKV] at hr ⊢
    obtain ⟨e, r, rfl, h1, h2, h3⟩ := hr
    exact ⟨e, r, rfl, R.later h _ _ h1, R.later h _ _ h2, RKV.later h h3⟩

theorem objAt.later (h : Later E w E' w') {ho : HObj} {b : Nat} (hb : w'.heap[b]? = w.heap[b]?) (hr : objAt E w ho b) : objAt E' w' ho b := by
  cases ho with
  | cells cs =>
    obtain ⟨arr, ty, h1, h2⟩ := hr
    exact ⟨arr, ty, by rw [hb]; exact h1, RL.later h _ _ h2⟩
  | map kvs =>
    obtain ⟨es, clock, h1, h2, h3⟩ := hr
    exact ⟨es, clock, by rw [hb]; exact h1, RKV.later h h2, h3⟩

theorem RH.grow (h : Grow E w E' w') {M : Heap} (hm : RH E w M) : RH E' w' M := fun o ho hM => by
  obtain ⟨b, hb, hr⟩ := hm o ho hM
  have hlt : b < w.heap.size := by
    cases ho <;> (obtain ⟨_, _, h1, _⟩ := hr; exact lt_of_heap h1)
  exact ⟨b, h.later.ob _ _ hb, hr.later h.later (h.all b hlt)⟩

/-! ### A new block -/
theorem heap_new (o : Obj) : (w.alloc o).heap[w.heap.size]? = some o := by
  show (w.heap.push o)[w.heap.size]? = _
  simp
theorem heap_old (o : Obj) {b : Nat} (h : b < w.heap.size) : (w.alloc o).heap[b]? = w.heap[b]? := by
  show (w.heap.push o)[b]? = _
  rw [Array.getElem?_push, if_neg (by omega)]

def newBox (E : Env) (d g n : Nat) : Env := { E with bx := fun s g' => if s = d ∧ g' = g then some n else E.bx s g' }
def newOb (E : Env) (o n : Nat) : Env := { E with ob := fun k => if k = o then some n else E.ob k }

theorem Inv.exown (h : Inv E0 w0 E w) {b : Nat} (hb : w.heap.size ≤ b) : ¬ E.own b := by
  rintro (⟨o, ho⟩ | ⟨s, g, hs⟩ | he)
  · have := h.oblt o b ho; omega
  · have := h.bxlt s g b hs; omega
  · rw [h.ex] at he; have := h.exlt b he; have := h.size; omega

theorem grow_box (h : Inv E0 w0 E w) {d g : Nat} (hg : E.bx d g = none) (o : Obj) : Grow E w (newBox E d g w.heap.size) (w.alloc o) where
  later := {
    size := by simp
    ob := fun _ _ hb => hb
    own := fun b hb ho => by
      rcases ho with ho | ⟨s, g', hs⟩ | ho
      · exact .inl ho
      · simp only [newBox] at hs
        split at hs
        · simp at hs; omega
        · exact .inr (.inl ⟨s, g', hs⟩)
      · exact .inr (.inr ho)
    keep := fun b hb _ => heap_old o hb }
  bx := fun s g' b hb => by
    simp only [newBox]
    split
    · rename_i hh; obtain ⟨rfl, rfl⟩ := hh; rw [hg] at hb; cases hb
    · exact hb
  all := fun b hb => heap_old o hb

theorem inv_box (h : Inv E0 w0 E w) {d g : Nat} (hg : E.bx d g = none) (o : Obj) : Inv E0 w0 (newBox E d g w.heap.size) (w.alloc o) where
  size := by have := h.size; simp; omega
  obm := h.obm
  obn := h.obn
  bxn := fun s g' b hb => by
    simp only [newBox] at hb
    split at hb
    · simp at hb; have := h.size; omega
    · exact h.bxn _ _ _ hb
  ex := h.ex
  exlt := h.exlt
  keep := fun b hb hn => by rw [heap_old o (by have := h.size; omega)]; exact h.keep b hb hn
  os := h.os
  tape := h.tape
  output := h.output
  oblt := fun o' b hb => by have := h.oblt o' b hb; simp; omega
  bxlt := fun s g' b hb => by
    simp only [newBox] at hb
    split at hb
    · simp at hb; simp; omega
    · have := h.bxlt _ _ _ hb; simp; omega
  obinj := h.obinj
  bxinj := fun s g1 s' g2 b hb hb' => by
    simp only [newBox] at hb hb'
    split at hb <;> split at hb'
    · rename_i h1 h2; exact ⟨by omega, by omega⟩
    · simp at hb; have := h.bxlt _ _ _ hb'; omega
    · simp at hb'; have := h.bxlt _ _ _ hb; omega
    · exact h.bxinj _ _ _ _ _ hb hb'
  obbx := fun o' s g' b hb hs => by
    simp only [newBox] at hs hb
    split at hs
    · simp at hs; have := h.oblt o' b hb; omega
    · exact h.obbx _ _ _ _ hb hs
  fin := h.fin

theorem grow_ob (h : Inv E0 w0 E w) {o : Nat} (ho : E.ob o = none) (x : Obj) : Grow E w (newOb E o w.heap.size) (w.alloc x) where
  later := {
    size := by simp
    ob := fun o' b hb => by
      simp only [newOb]
      split
      · subst_vars; rw [ho] at hb; cases hb
      · exact hb
    own := fun b hb hw => by
      rcases hw with ⟨o', hw⟩ | hw | hw
      · simp only [newOb] at hw
        split at hw
        · simp at hw; omega
        · exact .inl ⟨o', hw⟩
      · exact .inr (.inl hw)
      · exact .inr (.inr hw)
    keep := fun b hb _ => heap_old x hb }
  bx := fun s g' b hb => hb
  all := fun b hb => heap_old x hb

theorem inv_ob (h : Inv E0 w0 E w) {o : Nat} (ho : E.ob o = none) (x : Obj) : Inv E0 w0 (newOb E o w.heap.size) (w.alloc x) where
  size := by have := h.size; simp; omega
  obm := fun o' b hb => by
    simp only [newOb]
    split
    · subst_vars; rw [h.obm _ _ hb] at ho; cases ho
    · exact h.obm _ _ hb
  obn := fun o' b hb hlt => by
    simp only [newOb] at hb
    split at hb
    · simp at hb; have := h.size; omega
    · exact h.obn _ _ hb hlt
  bxn := h.bxn
  ex := h.ex
  exlt := h.exlt
  keep := fun b hb hn => by rw [heap_old x (by have := h.size; omega)]; exact h.keep b hb hn
  os := h.os
  tape := h.tape
  output := h.output
  oblt := fun o' b hb => by
    simp only [newOb] at hb
    split at hb
    · simp at hb; simp; omega
    · have := h.oblt _ _ hb; simp; omega
  bxlt := fun s g' b hb => by have := h.bxlt s g' b hb; simp; omega
  obinj := fun o1 o2 b hb hb' => by
    simp only [newOb] at hb hb'
    split at hb <;> split at hb'
    · omega
    · simp at hb; have := h.oblt _ _ hb'; omega
    · simp at hb'; have := h.oblt _ _ hb; omega
    · exact h.obinj _ _ _ hb hb'
  bxinj := h.bxinj
  obbx := fun o' s g' b hb hs => by
    simp only [newOb] at hb hs
    split at hb
    · simp at hb; have := h.bxlt s g' b hs; omega
    · exact h.obbx _ _ _ _ hb hs
  fin := by
    obtain ⟨N, hN⟩ := h.fin
    refine ⟨max N (o + 1), fun k hk => ?_⟩
    simp only [newOb]
    rw [if_neg (by omega)]
    exact hN k (by omega)

/-! ### One block that is owned is written -/
structure Wr (w w' : World) (b : Nat) : Prop where
  size : w'.heap.size = w.heap.size
  other : ∀ k, k ≠ b → w'.heap[k]? = w.heap[k]?
  os : w'.os = w.os
  tape : w'.tape = w.tape
  output : w'.output = w.output

theorem Wr.later {b : Nat} (h : Wr w w' b) (ho : E.own b) : Later E w E w' where
  size := by rw [h.size]; exact Nat.le_refl _
  ob := fun _ _ hb => hb
  own := fun _ _ ho => ho
  keep := fun k _ hn => h.other k (fun e => hn (e ▸ ho))

theorem Wr.inv {b : Nat} (h : Wr w w' b) (hi : Inv E0 w0 E w) (ho : w0.heap.size ≤ b ∨ ∃ o, E0.ob o = some b) : Inv E0 w0 E w' where
  size := by rw [h.size]; exact hi.size
  obm := hi.obm
  obn := hi.obn
  bxn := hi.bxn
  ex := hi.ex
  exlt := hi.exlt
  keep := fun k hk hn => by
    rw [h.other k (fun e => by subst e; exact ho.elim (fun h1 => by omega) (fun ⟨o, h1⟩ => hn o h1))]
    exact hi.keep k hk hn
  os := h.os.trans hi.os
  tape := h.tape.trans hi.tape
  output := h.output.trans hi.output
  oblt := fun o b hb => by rw [h.size]; exact hi.oblt o b hb
  bxlt := fun s g b hb => by rw [h.size]; exact hi.bxlt s g b hb
  obinj := hi.obinj
  bxinj := hi.bxinj
  obbx := hi.obbx
  fin := hi.fin

/-- A slot whose own block (if it has one) isn't the one that is written. -/
theorem RS.wr {b : Nat} (h : Wr w w' b) (ho : E.own b) {t : Nat} : ∀ {v : V} {x : Value}, (∀ g, E.bx t g ≠ some b) → RS E w t v x → RS E w' t v x
  | .box g cs, x, hn, hr => by
    simp only [RS] at hr ⊢
    obtain ⟨b', arr, ty, h1, rfl, h3, h4⟩ := hr
    exact ⟨b', arr, ty, h1, rfl, by rw [h.other b' (fun e => hn g (e ▸ h1))]; exact h3, RL.later (h.later ho) _ _ h4⟩
  | .itr g s pos, x, hn, hr => by
    simp only [RS] at hr ⊢
    obtain ⟨b', h1, rfl, h3, h4⟩ := hr
    exact ⟨b', h1, rfl, by rw [h.other b' (fun e => hn g (e ▸ h1))]; exact h3, h4⟩
  | .lref s g off, x, hn, hr => by simpa only [RS] using hr
  | .when c v, x, hn, hr => by
    simp only [RS] at hr ⊢
    exact ⟨fun hc => RS.wr h ho hn (hr.1 hc), hr.2⟩
  | .any, x, hn, hr => by simp only [RS] at hr ⊢; exact R.later (h.later ho) _ _ hr
  | .bool _, x, hn, hr => by simp only [RS] at hr ⊢; exact R.later (h.later ho) _ _ hr
  | .int _ _, x, hn, hr => by simp only [RS] at hr ⊢; exact R.later (h.later ho) _ _ hr
  | .str _, x, hn, hr => by simp only [RS] at hr ⊢; exact R.later (h.later ho) _ _ hr
  | .agg _, x, hn, hr => by simp only [RS] at hr ⊢; exact R.later (h.later ho) _ _ hr
  | .tup _, x, hn, hr => by simp only [RS] at hr ⊢; exact R.later (h.later ho) _ _ hr
  | .lst _, x, hn, hr => by simp only [RS] at hr ⊢; exact R.later (h.later ho) _ _ hr
  | .nilp, x, hn, hr => by simp only [RS] at hr ⊢; exact R.later (h.later ho) _ _ hr
  | .ptr _ _, x, hn, hr => by simp only [RS] at hr ⊢; exact R.later (h.later ho) _ _ hr
  | .eref _ _, x, hn, hr => by simp only [RS] at hr ⊢; exact R.later (h.later ho) _ _ hr
  | .nilm, x, hn, hr => by simp only [RS] at hr ⊢; exact R.later (h.later ho) _ _ hr
  | .map _, x, hn, hr => by simp only [RS] at hr ⊢; exact R.later (h.later ho) _ _ hr
  | .fn _ _ _, x, hn, hr => by simp only [RS] at hr ⊢; exact R.later (h.later ho) _ _ hr
  | .nilf, x, hn, hr => by simp only [RS] at hr ⊢; exact R.later (h.later ho) _ _ hr
  | .iface _ _, x, hn, hr => by simp only [RS] at hr ⊢; exact R.later (h.later ho) _ _ hr
  | .nili, x, hn, hr => by simp only [RS] at hr ⊢; exact R.later (h.later ho) _ _ hr
  | .nils, x, hn, hr => by simp only [RS] at hr ⊢; exact R.later (h.later ho) _ _ hr
  | .emp, x, hn, hr => by simp only [RS] at hr ⊢; exact R.later (h.later ho) _ _ hr
  | .sli _ _ _ _, x, hn, hr => by simp only [RS] at hr ⊢; exact R.later (h.later ho) _ _ hr
  | .lrs _ _ _ _, x, hn, hr => by simpa only [RS] using hr

/-! ### The frame -/
theorem FR.put {fr : Nat → V} {tmps : Array Value} {d : Nat} {v : V} {x : Value} (hf : FR E w fr tmps) (hd : d < tmps.size) (hv : RS E w d v x) : FR E w (upd fr d v) (tmps.setIfInBounds d x) := fun t => by
  unfold upd
  by_cases h : t = d
  · subst h
    have hd' : t < (tmps.setIfInBounds t x).size := by simpa using hd
    simp only [if_true, Array.getD, hd', dif_pos]
    simpa using hv
  · rw [if_neg h]
    have := hf t
    have e : (tmps.setIfInBounds d x).getD t undef = tmps.getD t undef := by
      simp only [Array.getD_eq_getD_getElem?, Array.getElem?_setIfInBounds_ne (Ne.symm h)]
    rw [e]; exact this

/-! ### Storing cells -/
def cellOk (v : V) : Bool := v.tag < 20 && v.tag != 3 && v.tag != 4

theorem cellOk_one {v : V} {x : Value} (hv : cellOk v = true) (h : R E w v x) : x.oneCell' = true := by
  simp only [cellOk, Bool.and_eq_true, decide_eq_true_eq, bne_iff_ne] at hv
  have ht := h.tag hv.1.1
  cases x <;> simp [Value.oneCell', vtag] at * <;> omega

theorem RL.one : ∀ {vs : List V} {xs : List Value}, (∀ c ∈ vs, cellOk c = true) → RL E w vs xs → ∀ x ∈ xs, x.oneCell' = true
  | [], xs, _, h => by simp [RL] at h; subst h; simp
  | v :: vs, xs, ho, h => by
    simp only [RL] at h
    obtain ⟨y, ys, rfl, h1, h2⟩ := h
    intro x hx
    rcases List.mem_cons.1 hx with rfl | hx
    · exact cellOk_one (ho v (by simp)) h1
    · exact RL.one (fun c hc => ho c (by simp [hc])) h2 x hx

theorem storeCells_ok {P : Program} {b off : Nat} {ty : TypeId} : ∀ (vs : List Value) (i : Nat) (w : World) (arr : Array Value), w.heap[b]? = some (.cells arr ty (0, 0)) → off + i + vs.length ≤ arr.size → (∀ v ∈ vs, v.oneCell' = true) →
    ∃ w' arr', (storeCells ⟨b, off, none⟩ vs i).run P w = .ok () w' ∧ w'.heap[b]? = some (.cells arr' ty (0, 0)) ∧ arr'.toList = arr.toList.take (off + i) ++ vs ++ arr.toList.drop (off + i + vs.length) ∧ Wr w w' b
  | [], i, w, arr, hb, _, _ => ⟨w, arr, by simp [storeCells], hb, by simp, rfl, fun _ _ => rfl, rfl, rfl, rfl⟩
  | v :: vs, i, w, arr, hb, hlen, ho => by
    simp only [List.length_cons] at hlen
    have hc : w.cell? ⟨b, off + i, none⟩ = some (arr[off + i]'(by omega)) := by
      simp [World.cell?, hb, Array.getElem?_eq_getElem (show off + i < arr.size by omega)]
    have hz : w.frozen? ⟨b, off + i, none⟩ = false := by simp [World.frozen?, hb]
    have hst : (store ((⟨b, off, none⟩ : Addr).add i) v).run P w = .ok () (w.setCell ⟨b, off + i, none⟩ v) := by
      rw [addr_add, run_store P w _ v _ (ho v (by simp))]
      simp [hc, hz]
    have hb' : (w.setCell ⟨b, off + i, none⟩ v).heap[b]? = some (.cells (arr.setIfInBounds (off + i) v) ty (0, 0)) := by
      simp [World.setCell, Array.getElem?_modify, hb]
    obtain ⟨w', arr', h1, h2, h3, h4⟩ := storeCells_ok (P := P) (b := b) (off := off) (ty := ty) vs (i + 1) _ _ hb' (by simp; omega) (fun x hx => ho x (by simp [hx]))
    refine ⟨w', arr', by simp [storeCells, hst, h1], h2, ?_, ?_⟩
    · rw [h3, show arr.toList.take (off + i) ++ v :: vs = arr.toList.take (off + i) ++ [v] ++ vs by simp]
      have e1 := setRange off [v] arr i (by simp; omega)
      simp only [List.zipIdx_cons, List.zipIdx_nil, List.foldl_cons, List.foldl_nil, List.length_cons, List.length_nil] at e1
      rw [e1]
      have hl1 : (arr.toList.take (off + i) ++ [v]).length = off + i + 1 := by simp; omega
      generalize arr.toList.take (off + i) ++ [v] = A at hl1 e1 ⊢
      rw [show off + (i + 1) = (off + i) + 1 by omega, List.take_append, List.drop_append, hl1]
      rw [List.take_of_length_le (l := A) (by rw [hl1]; omega), List.drop_eq_nil_of_le (as := A) (by rw [hl1]; omega)]
      rw [show off + i + 1 - (off + i + 1) = 0 by omega, show off + i + 1 + vs.length - (off + i + 1) = vs.length by omega]
      simp only [List.take_zero, List.append_nil, List.nil_append, List.drop_drop, List.length_cons]
      rw [show off + i + (0 + 1) + vs.length = off + i + (vs.length + 1) by omega]
    · refine ⟨by rw [h4.size]; simp, fun k hk => ?_, h4.os, h4.tape, h4.output⟩
      rw [h4.other k hk]
      simp only [World.setCell, Array.getElem?_modify]
      rw [if_neg (by omega)]
end
end Go.Eng

/- The engine, part 8: one operation of any kind, as a transformer of predicates on abstract states; that the model goes the same way. -/
namespace Go.Eng
set_option linter.unusedSimpArgs false
set_option linter.unusedVariables false

/-- WHAT A CALL OF A FUNCTION DOES: for whatever stands for these arguments and this heap it returns, with a result and a heap of which 'Post' holds. -/
def Spec (P : Program) (f : FuncId) (args : List V) (M : Heap) (Post : V → Heap → Prop) : Prop :=
  (∃ fn, P.funcs[f]? = some fn ∧ (fn.name == "runtime.NumGoroutine") = false ∧ fn.body.isNone = false) ∧
  ∀ (E : Env) (w : World) (xs : Array Value), (∀ s g, E.bx s g = none) → Inv E w E w → RL E w args xs.toList → RH E w M → (∀ o, M o = none → E.ob o = none) →
    Calls P f xs w fun e w' => ∃ x r M' E', e = .returned x ∧ Post r M' ∧ R E' w' r x ∧ RH E' w' M' ∧ Inv E w E' w' ∧ ∀ o, M' o = none → E'.ob o = none

theorem Spec.mono {P : Program} {f : FuncId} {args : List V} {M : Heap} {Post Post' : V → Heap → Prop} (h : Spec P f args M Post) (hp : ∀ r M', Post r M' → Post' r M') : Spec P f args M Post' :=
  ⟨h.1, fun E w xs h1 h2 h3 h4 h5 => (h.2 E w xs h1 h2 h3 h4 h5).mono fun e w' ⟨x, r, M', E', k1, k2, k3⟩ => ⟨x, r, M', E', k1, hp _ _ k2, k3⟩⟩

/-- A call that leaves the heap alone, and its one result. -/
def Pure (P : Program) (f : FuncId) (args : List V) (M : Heap) (r : V) : Prop := Spec P f args M fun r' M' => r' = r ∧ M' = M

def callV (fr : Nat → V) (c : Call) : Option (Prop × FuncId × List V) :=
  match c.callee with
  | .value f =>
    match opv fr f, opvs fr c.args.toList with
    | some (g, .fn (.func id) first cap), some (g', vs) => some (g ∧ g', id, softs (first ++ vs ++ cap))
    | _, _ => none
  | _ => none

def splice (cs : List V) (off : Nat) (vs : List V) : List V := cs.take off ++ vs ++ cs.drop (off + vs.length)

def storeTo (st : St) (vs : List V) : V → Option (Prop × St)
  | .lref s g off =>
    match st.fr s with
    | .box g' cs => some (g = g' ∧ off + vs.length ≤ cs.length, { st with fr := upd st.fr s (.box g' (splice cs off vs)) })
    | _ => none
  | .ptr o off =>
    match st.M o with
    | some (.cells cs) => some (off + vs.length ≤ cs.length, { st with M := updH st.M o (.cells (splice cs off vs)) })
    | _ => none
  | _ => none

/-- A map with an entry more, or another one. -/
def setKV (key v : V) : List (V × V) → Option (List (V × V))
  | [] => some [(key, v)]
  | (k, u) :: kvs =>
    match keyEq key k with
    | some true => some ((key, v) :: kvs)
    | some false => match setKV key v kvs with
      | some r => some ((k, u) :: r)
      | none => none
    | none => none

def setD (st : St) (dst : Option Nat) (v : V) : St :=
  match dst with
  | some d => { st with fr := upd st.fr d v }
  | none => st

/-! ### Slices of a heap object's cells -/
def V.obj : V → Option Nat
  | .sli o _ _ _ => some o
  | _ => none

/-- A slice that was made here: nil, or from the head of a heap object on: its elements, each of so many cells. -/
def Own (M : Heap) (sz : Nat) (v : V) (es : List (List V)) : Prop :=
  (∀ e ∈ es, e.length = sz) ∧ ((v = .nils ∧ es = []) ∨ (v = .emp ∧ es = []) ∨ ∃ o cap cs, v = .sli o 0 es.length cap ∧ M o = some (.cells cs) ∧ es.length ≤ cap ∧ cs.length = cap * sz ∧ cs.take (es.length * sz) = es.flatten)

def chunks (sz : Nat) : Nat → List V → List (List V)
  | 0, _ => []
  | n + 1, cs => cs.take sz :: chunks sz n (cs.drop sz)

/-- The elements of any slice. -/
def readSl (st : St) (sz : Nat) : V → Option (Prop × List (List V))
  | .lst es => some (∀ e ∈ es, e.length = sz, es)
  | .nils => some (True, [])
  | .emp => some (True, [])
  | .lrs s g off len => match st.fr s with
    | .box g' cs => some (g = g' ∧ off + len * sz ≤ cs.length, chunks sz len (cs.drop off))
    | _ => none
  | .sli o off len _ => match st.M o with
    | some (.cells cs) => some (off + len * sz ≤ cs.length, chunks sz len (cs.drop off))
    | _ => none
  | _ => none

/-- The elements of a slice that is built. -/
def partsV (fr : Nat → V) (sz : Nat) : Nat → List (Nat × Operand) → Option (Prop × List (List V))
  | _, [] => some (True, [])
  | k, (i, x) :: ps =>
    if i = k then
      match opv fr x, partsV fr sz (k + 1) ps with
      | some (g, v), some (g', es) => some (g ∧ v.tag < 20 ∧ v.cells.length = sz ∧ (∀ c ∈ v.cells, cellOk c = true) ∧ g', v.cells :: es)
      | _, _ => none
    else none

/-- A map with an entry less. -/
def delKV (key : V) : List (V × V) → Option (List (V × V))
  | [] => some []
  | (k, u) :: kvs =>
    match keyEq key k with
    | some true => some kvs
    | some false => match delKV key kvs with
      | some r => some ((k, u) :: r)
      | none => none
    | none => none

/-- A new variable: in the slot, or (where its address goes further) on the heap. -/
def newVarW (esc : Nat → Bool) (st : St) (dst : Option Nat) (cs : List V) (K : St → Prop) : Prop :=
  match dst with
  | none => False
  | some d =>
    if esc d then ∀ o, st.M o = none → K { st with fr := upd st.fr d (.ptr o 0), M := updH st.M o (.cells cs) }
    else K { st with fr := upd st.fr d (.box (st.gen d) cs), gen := bump st.gen d }

/-- A comparison with nil of a slice of which only the elements are known: either, where it has none. -/
def softEq (P : Program) (fr : Nat → V) (op : Op) (K : Bool → Prop) : Prop :=
  match op with
  | .binOp .eql t x y _ =>
    match P.underlying t, opv fr x, opv fr y with
    | some (.slice _), some (g, .lst es), some (g', .nils) => g ∧ g' ∧ ∀ b, (es ≠ [] → b = false) → K b
    | _, _, _ => False
  | _ => False

theorem softEq_mono {P : Program} {fr : Nat → V} {op : Op} {K K' : Bool → Prop} (h : ∀ b, K b → K' b) (hk : softEq P fr op K) : softEq P fr op K' := by
  unfold softEq at hk ⊢
  split at hk <;> try (exact hk.elim)
  split at hk <;> try (exact hk.elim)
  exact ⟨hk.1, hk.2.1, fun b hb => h b (hk.2.2 b hb)⟩

/-- One operation, whatever its guard. -/
def opw (P : Program) (esc : Nat → Bool) (o : Oper) (K : St → Prop) (st : St) : Prop :=
  match o.op with
  | .box _ x =>
    match opv st.fr x with
    | some (g, v) => g ∧ v.tag < 20 ∧ newVarW esc st o.dst v.cells K
    | none => False
  | .alloc t =>
    match zeroV P t with
    | some z => newVarW esc st o.dst z.cells K
    | none => False
  | .store t a x =>
    match ti P t, opv st.fr a, opv st.fr x with
    | some T, some (g, av), some (g', v) =>
      match storeTo st v.cells av with
      | some (g'', st') => g ∧ g' ∧ g'' ∧ v.cells.length = T.size ∧ v.tag < 20 ∧ (∀ c ∈ v.cells, cellOk c = true) ∧ K (setD st' o.dst (.tup []))
      | none => False
    | _, _, _ => False
  | .mapUpdate t m k x =>
    match P.underlying t, opv st.fr m, opv st.fr k, opv st.fr x with
    | some (.map kt _), some (g, .map ob), some (g', kv), some (g'', v) =>
      match P.underlying kt, st.M ob with
      | some d, some (.map kvs) =>
        match setKV kv v kvs with
        | some r => g ∧ g' ∧ g'' ∧ keyKind d kv = true ∧ v.tag < 20 ∧ K (setD { st with M := updH st.M ob (.map r) } o.dst (.tup []))
        | none => False
      | _, _ => False
    | _, _, _, _ => False
  | .makeMap _ none =>
    match o.dst with
    | some d => ∀ ob, st.M ob = none → K { st with fr := upd st.fr d (.map ob), M := updH st.M ob (.map []) }
    | none => False
  | .range t x =>
    match P.underlying t, opv st.fr x, o.dst with
    | some .string, some (g, .str s), some d => g ∧ K { st with fr := upd st.fr d (.itr (st.gen d) s 0), gen := bump st.gen d }
    | _, _, _ => False
  | .next (.tmp t) true =>
    match st.fr t with
    | .itr g s pos =>
      (pos < s.length → K (setD { st with fr := upd st.fr t (.itr g s (pos + (Utf8.decode ⟨⟨s⟩⟩ pos).2)) } o.dst (.tup [.bool true, .int .i64 pos, .int .i32 (Utf8.decode ⟨⟨s⟩⟩ pos).1]))) ∧
      (s.length ≤ pos → K (setD st o.dst (.tup [.bool false])))
    | _ => False
  | .buildSlice t len ps =>
    match P.underlying t with
    | some (.slice e) =>
      match ti P e, o.dst with
      | some T, some d =>
        match partsV st.fr T.size 0 ps.toList with
        | some (g, es) => g ∧ 0 < T.size ∧ es.length = len ∧ len * T.size ≤ 16777216 ∧ (∃ z, zeroV P e = some z ∧ z.cells.length = T.size) ∧
            if esc d then ∀ ob, st.M ob = none → K { st with fr := upd st.fr d (.sli ob 0 len len), M := updH st.M ob (.cells es.flatten) }
            else K { st with fr := upd st.fr d (.lst es) }
        | none => False
      | _, _ => False
    | _ => False
  | .call ⟨.builtin .append, args, ts⟩ =>
    match args.toList, ts.toList with
    | [s, x], [t, u] =>
      match P.underlying t, opv st.fr s, opv st.fr x with
      | some (.slice e), some (g, sv), some (g', xv) =>
        match ti P e, P.info? e, readSl st (P.cellsOf e) xv with
        | some T, some i, some (g'', xs) => t = u ∧ g ∧ g' ∧ g'' ∧ 0 < T.size ∧ (∃ z, i.zero = some z ∧ z.cells.size = T.size) ∧ (∀ e ∈ xs, ∀ c ∈ e, cellOk c = true) ∧
            ∃ es, Own st.M T.size sv es ∧ es.length + xs.length ≤ maxLen ∧ (es.length + xs.length) * i.bytes ≤ 140737488355328 ∧
            ∀ v' M', Own M' T.size v' (es ++ xs) → (∀ k, v'.obj = some k → sv.obj = some k ∨ st.M k = none) → (∀ k, v'.obj ≠ some k → M' k = st.M k) → K (setD { st with M := M' } o.dst v')
        | _, _, _ => False
      | _, _, _ => False
    | _, _ => False
  | .call ⟨.builtin .delete, args, ts⟩ =>
    match args.toList, ts.toList with
    | [m, k], [t, _] =>
      match P.underlying t, opv st.fr m, opv st.fr k with
      | some (.map kt _), some (g, .map ob), some (g', kv) =>
        match P.underlying kt, st.M ob with
        | some d, some (.map kvs) =>
          match delKV kv kvs with
          | some r => g ∧ g' ∧ keyKind d kv = true ∧ K (setD { st with M := updH st.M ob (.map r) } o.dst (.tup []))
          | none => False
        | _, _ => False
      | _, _, _ => False
    | _, _ => False
  | .call ⟨.value f, args, ts⟩ =>
    match callV st.fr ⟨.value f, args, ts⟩ with
    | some (g, id, vs) => g ∧ ∃ Post, Spec P id vs st.M Post ∧ ∀ r M', Post r M' → K (setD { st with M := M' } o.dst r)
    | none => False
  | op =>
    match evalQ P st.M st.fr op with
    | some (g, v) => g ∧ K (setD st o.dst v)
    | none => softEq P st.fr op fun b => K (setD st o.dst (.bool b))

/-- All that the engine knows of a state of the machine. -/
structure RSt (E0 : Env) (w0 : World) (n : Nat) (E : Env) (w : World) (st : St) (a : Act) : Prop where
  inv : Inv E0 w0 E w
  fr : FR E w st.fr a.tmps
  size : a.tmps.size = n
  heap : RH E w st.M
  defers : a.defers = []
  gens : ∀ s g, st.gen s ≤ g → E.bx s g = none
  dom : ∀ o, st.M o = none → E.ob o = none

def Nxt (E0 : Env) (w0 : World) (n : Nat) (K : St → Prop) : Act → World → Prop := fun a w => ∃ E st, RSt E0 w0 n E w st a ∧ K st

section
variable {P : Program} {E0 E : Env} {w0 w : World} {n : Nat} {st : St} {a : Act} {esc : Nat → Bool} {K : St → Prop} {Q : Exit → Act → World → Prop}

theorem RSt.put (h : RSt E0 w0 n E w st a) {dst : Option Nat} (hd : ∀ d, dst = some d → d < n) {v : V} {x : Value} (hv : ∀ t, RS E w t v x) : RSt E0 w0 n E w (setD st dst v) (a.put dst x) := by
  cases dst with
  | none => exact h
  | some d =>
    refine ⟨h.inv, ?_, by simp [Act.put, h.size], by simpa [setD] using h.heap, by simpa [Act.put] using h.defers, by simpa [setD] using h.gens, by simpa [setD] using h.dom⟩
    simp only [setD, Act.put]
    exact h.fr.put (by rw [h.size]; exact hd d rfl) (hv d)

theorem mem_setKV {E : Env} {w : World} {d : TypeDesc} {key v : V} {x y : Value} (hk : keyKind d key = true) (hr : R E w key x) (hv : R E w v y) : ∀ (kvs r : List (V × V)) (es : List MapEntry) (i : Nat), setKV key v kvs = some r → RKV E w kvs es →
    (Instr.findNow d x es i = some none ∧ ∀ born, RKV E w r (es ++ [{ key := x, val := y, born }])) ∨
    (∃ j z, Instr.findNow d x es i = some (some (i + j, z)) ∧ j < es.length ∧ Instr.sameBits 10000 ((es[j]?.map (·.key)).getD x) x = true ∧ RKV E w r (es.modify j fun e => { e with key := x, val := y }))
  | [], r, es, i, h, hkv => by
    simp [setKV] at h; subst h
    simp [RKV] at hkv; subst hkv
    left
    exact ⟨by simp [Instr.findNow], fun born => by simp only [RKV, List.nil_append]; exact ⟨_, [], rfl, hr, hv, rfl⟩⟩
  | (k, u) :: kvs, r, es, i, h, hkv => by
    simp only [RKV] at hkv
    obtain ⟨e, rest, rfl, h1, h2, h3⟩ := hkv
    have hsame : ∀ b, keyEq key k = some b → Instr.sameNow d x e.key = some b ∧ (b = true → Instr.sameBits 10000 e.key x = true) := by
      intro b hb
      cases key <;> cases k <;> simp [keyEq] at hb <;> cases d <;> simp [keyKind] at hk
      · simp only [R] at hr h1; subst hr; rw [h1]; subst hb; exact ⟨by simp [Instr.sameNow], fun hh => by simp at hh; subst hh; simp [Instr.sameBits]⟩
      · obtain ⟨rfl, rfl⟩ := hb; simp only [R] at hr h1; subst hr; rw [h1]; exact ⟨by simp [Instr.sameNow], fun hh => by simp at hh; subst hh; simp [Instr.sameBits]⟩
      · simp only [R] at hr h1; obtain ⟨rfl, _⟩ := hr; rw [h1.1]; subst hb; exact ⟨by simp [Instr.sameNow, bytes_beq], fun hh => by simp at hh; subst hh; simp [Instr.sameBits, bytes_beq]⟩
    unfold setKV at h
    cases hq : keyEq key k with
    | none => simp [hq] at h
    | some b =>
      obtain ⟨s1, s2⟩ := hsame b hq
      simp only [hq] at h
      cases b with
      | true =>
        simp at h; subst h
        right
        refine ⟨0, e.val, by simp [Instr.findNow, s1], by simp, by simpa using s2 rfl, ?_⟩
        simp only [List.modify_zero_cons, RKV]
        exact ⟨_, rest, rfl, hr, hv, h3⟩
      | false =>
        simp only at h
        split at h <;> simp at h
        rename_i r' hr'
        subst h
        rcases mem_setKV hk hr hv kvs r' rest (i + 1) hr' h3 with ⟨g1, g2⟩ | ⟨j, z, g1, g2, g3, g4⟩
        · left
          refine ⟨by simpa [Instr.findNow, s1] using g1, fun born => ?_⟩
          simp only [List.cons_append, RKV]
          exact ⟨e, _, rfl, h1, h2, g2 born⟩
        · right
          refine ⟨j + 1, z, by rw [show i + (j + 1) = i + 1 + j by omega]; simpa [Instr.findNow, s1] using g1, by simpa using g2, by simpa using g3, ?_⟩
          simp only [List.modify_succ_cons, RKV]
          exact ⟨e, _, rfl, h1, h2, g4⟩

theorem RS_tupnil {E : Env} {w : World} (t : Nat) : RS E w t (.tup []) undef := by
  simp only [RS, R]
  exact ⟨#[], rfl, by simp [RL]⟩

theorem dom_ob {M : Heap} {E : Env} (h : ∀ o, M o = none → E.ob o = none) (N b : Nat) (x : HObj) : ∀ o, updH M N x o = none → (newOb E N b).ob o = none := by
  intro o ho
  simp only [updH] at ho
  split at ho
  · cases ho
  · rename_i hne
    simp only [newOb]
    rw [if_neg hne]
    exact h o ho
theorem dom_upd {M : Heap} {E : Env} (h : ∀ o, M o = none → E.ob o = none) (N : Nat) (x : HObj) : ∀ o, updH M N x o = none → E.ob o = none := by
  intro o ho
  simp only [updH] at ho
  split at ho
  · cases ho
  · exact h o ho

theorem upd_dst (h : RSt E0 w0 n E w st a) {d : Nat} (hd : d < n) {E' : Env} {w' : World} (hg : Grow E w E' w') (hi : Inv E0 w0 E' w') {v : V} {x : Value} (hv : RS E' w' d v x) {M' : Heap} (hm : RH E' w' M') {gen : Nat → Nat} (hgen : ∀ s g, gen s ≤ g → E'.bx s g = none) (hdom : ∀ o, M' o = none → E'.ob o = none) :
    RSt E0 w0 n E' w' { fr := upd st.fr d v, M := M', gen := gen } (a.put (some d) x) :=
  ⟨hi, (h.fr.grow hg).put (by rw [h.size]; exact hd) hv, by simp [Act.put, h.size], hm, by simpa [Act.put] using h.defers, hgen, hdom⟩

theorem gens_box (h : RSt E0 w0 n E w st a) (d : Nat) : ∀ s g, bump st.gen d s ≤ g → (newBox E d (st.gen d) w.heap.size).bx s g = none := fun s g hg => by
  simp only [bump] at hg
  simp only [newBox]
  split at hg
  · subst_vars; rw [if_neg (by omega)]; exact h.gens _ _ (by omega)
  · rename_i hs; rw [if_neg (fun e => hs e.1)]; exact h.gens _ _ hg

/-- A new variable. -/
theorem newVar_sound {o : Oper} (h : RSt E0 w0 n E w st a) (hd : ∀ d, o.dst = some d → d < n) {cs : List V} {arr : Array Value} {ty : TypeId} (hk : newVarW esc st o.dst cs K) (hl : RL E w cs arr.toList) :
    Nxt E0 w0 n K (a.put o.dst (.pointer (some ⟨w.heap.size, 0, none⟩))) (w.alloc (.cells arr ty)) := by
  unfold newVarW at hk
  cases hdst : o.dst with
  | none => simp [hdst] at hk
  | some d =>
    simp only [hdst] at hk
    have hdn := hd d hdst
    split at hk
    · obtain ⟨N, hN⟩ := h.inv.fin
      have hnone := hN N (Nat.le_refl _)
      have hM : st.M N = none := by
        cases hM : st.M N with
        | none => rfl
        | some ho => obtain ⟨b, hb, _⟩ := h.heap N ho hM; rw [hnone] at hb; cases hb
      have hg := grow_ob h.inv hnone (.cells arr ty)
      refine ⟨newOb E N w.heap.size, _, upd_dst h hdn hg (inv_ob h.inv hnone _) (v := .ptr N 0) ?_ (M' := updH st.M N (.cells cs)) ?_ h.gens (dom_ob h.dom _ _ _), hk N hM⟩
      · simp only [RS, R]; exact ⟨w.heap.size, by simp [newOb], rfl⟩
      · intro o' ho hM'
        simp only [updH] at hM'
        split at hM'
        · cases hM'; subst_vars
          exact ⟨w.heap.size, by simp [newOb], arr, ty, heap_new _, RL.later hg.later _ _ hl⟩
        · obtain ⟨b, hb, hr⟩ := (h.heap.grow hg) o' ho hM'
          exact ⟨b, hb, hr⟩
    · have hnone := h.gens d (st.gen d) (Nat.le_refl _)
      have hg := grow_box h.inv hnone (.cells arr ty)
      refine ⟨newBox E d (st.gen d) w.heap.size, _, upd_dst h hdn hg (inv_box h.inv hnone _) (v := .box (st.gen d) cs) ?_ (M' := st.M) (h.heap.grow hg) (gens_box h d) h.dom, hk⟩
      simp only [RS]
      exact ⟨w.heap.size, arr, ty, by simp [newBox], rfl, heap_new _, RL.later hg.later _ _ hl⟩

/-- A store. -/
theorem storeTo_sound {o : Oper} (h : RSt E0 w0 n E w st a) {vs : List V} {av : V} {x : Value} {xs : List Value} {c : Prop} {st' : St} (hs : storeTo st vs av = some (c, st')) (hc : c) (ha : RO E w av x) (hl : RL E w vs xs) (ho : ∀ c ∈ vs, cellOk c = true) :
    ∃ b off w', x = .pointer (some ⟨b, off, none⟩) ∧ (storeCells ⟨b, off, none⟩ xs).run P w = .ok () w' ∧ RSt E0 w0 n E w' st' a := by
  have hone := RL.one ho hl
  have hlen := hl.length
  unfold storeTo at hs
  split at hs
  · rename_i s g off
    split at hs <;> simp at hs
    rename_i g' cs hfr
    obtain ⟨e, rfl⟩ := hs
    obtain ⟨rfl, hfit⟩ := e.2 hc
    simp only [RO] at ha
    obtain ⟨b, hb, rfl⟩ := ha
    have hsl := h.fr s
    rw [hfr] at hsl
    simp only [RS] at hsl
    obtain ⟨b', arr, ty, hb', hx', hh, hcs⟩ := hsl
    rw [hb] at hb'; cases hb'
    have hclen := hcs.length
    simp at hclen
    obtain ⟨w', arr', h1, h2, h3, h4⟩ := storeCells_ok (P := P) (b := b) (off := off) (ty := ty) xs 0 w arr hh (by omega) hone
    have hown : E.own b := .inr (.inl ⟨s, g, hb⟩)
    have hbn := h.inv.bxn s g b hb
    have hlat := h4.later hown
    refine ⟨b, off, w', rfl, h1, h4.inv h.inv (.inl hbn), ?_, h.size, ?_, h.defers, h.gens, h.dom⟩
    · intro t
      simp only [upd]
      by_cases ht : t = s
      · subst ht
        simp only [if_true, RS]
        refine ⟨b, arr', ty, hb, hx', h2, ?_⟩
        rw [h3]
        simp only [Nat.add_zero, splice]
        rw [hlen]
        exact ((RL.later hlat _ _ (hcs.take off)).append (RL.later hlat _ _ hl)).append (RL.later hlat _ _ (hcs.drop _))
      · rw [if_neg ht]
        exact RS.wr h4 hown (fun g2 e => ht (h.inv.bxinj _ _ _ _ _ e hb).1) (h.fr t)
    · intro o' ho' hM'
      obtain ⟨b', hb', hr⟩ := h.heap o' ho' hM'
      exact ⟨b', hb', hr.later hlat (h4.other b' (fun e => h.inv.obbx _ _ _ _ hb' (e ▸ hb)))⟩
  · rename_i ob off
    split at hs <;> simp at hs
    rename_i cs hM
    obtain ⟨e, rfl⟩ := hs
    have hfit := e.2 hc
    simp only [RO, R] at ha
    obtain ⟨b, hb, rfl⟩ := ha
    obtain ⟨b', hb', arr, ty, hh, hcs⟩ := h.heap ob _ hM
    rw [hb] at hb'; cases hb'
    have hclen := hcs.length
    simp at hclen
    obtain ⟨w', arr', h1, h2, h3, h4⟩ := storeCells_ok (P := P) (b := b) (off := off) (ty := ty) xs 0 w arr hh (by omega) hone
    have hown : E.own b := .inl ⟨ob, hb⟩
    have hlat := h4.later hown
    have hinv : Inv E0 w0 E w' := h4.inv h.inv (by
      rcases Nat.lt_or_ge b w0.heap.size with hlt | hge
      · exact .inr ⟨ob, h.inv.obn ob b hb hlt⟩
      · exact .inl hge)
    refine ⟨b, off, w', rfl, h1, hinv, ?_, h.size, ?_, h.defers, h.gens, dom_upd h.dom _ _⟩
    · intro t
      exact RS.wr h4 hown (fun g2 e => h.inv.obbx _ _ _ _ hb e) (h.fr t)
    · intro o' ho' hM'
      simp only [updH] at hM'
      split at hM'
      · cases hM'; subst_vars
        refine ⟨b, hb, arr', ty, h2, ?_⟩
        rw [h3]
        simp only [Nat.add_zero, splice]
        rw [hlen]
        exact ((RL.later hlat _ _ (hcs.take off)).append (RL.later hlat _ _ hl)).append (RL.later hlat _ _ (hcs.drop _))
      · rename_i hne
        obtain ⟨b', hb', hr⟩ := h.heap o' ho' hM'
        exact ⟨b', hb', hr.later hlat (h4.other b' (fun e => hne (h.inv.obinj _ _ _ hb' (e ▸ hb))))⟩
  · simp at hs
end
end Go.Eng

/- The engine, part 8a: append, a slice that is built, delete: what the model does. -/
namespace Go.Eng
set_option linter.unusedSimpArgs false
set_option linter.unusedVariables false

section
variable {P : Program} {E0 E : Env} {w0 w : World} {n : Nat} {st : St} {a : Act} {esc : Nat → Bool} {K : St → Prop}

theorem RE.flat : ∀ {es : List (List V)} {b off sz : Nat}, RE E w es b off sz → RM E w es.flatten b off
  | [], b, off, sz, _ => by simp [RM]
  | e :: es, b, off, sz, h => by
    simp only [RE] at h
    have h2 := RE.flat h.2.2
    rw [List.flatten_cons]
    have key : ∀ (l : List V) (off : Nat) (r : List V), RM E w l b off → RM E w r b (off + l.length) → RM E w (l ++ r) b off := by
      intro l
      induction l with
      | nil => intro off r _ h; simpa using h
      | cons v l ih =>
        intro off r h1 h2
        simp only [RM, List.cons_append] at h1 ⊢
        exact ⟨h1.1, ih (off + 1) r h1.2 (by rw [show off + 1 + l.length = off + (v :: l).length by simp; omega]; exact h2)⟩
    exact key e off es.flatten h.2.1 (by rw [h.1]; exact h2)

theorem chunks_flat {sz : Nat} : ∀ {n : Nat} {cs : List V}, n * sz ≤ cs.length → (chunks sz n cs).flatten = cs.take (n * sz) ∧ (∀ e ∈ chunks sz n cs, e.length = sz) ∧ (chunks sz n cs).length = n
  | 0, cs, _ => by simp [chunks]
  | n + 1, cs, h => by
    have h1 : sz ≤ cs.length := by rw [Nat.succ_mul] at h; omega
    have h2 : n * sz ≤ (cs.drop sz).length := by rw [Nat.succ_mul] at h; simp; omega
    obtain ⟨g1, g2, g3⟩ := chunks_flat h2
    refine ⟨?_, ?_, by simp [chunks, g3]⟩
    · simp only [chunks, List.flatten_cons, g1]
      rw [show (n + 1) * sz = sz + n * sz by rw [Nat.succ_mul]; omega, List.take_add]
    · simp only [chunks, List.mem_cons, forall_eq_or_imp]
      exact ⟨by simp; omega, g2⟩

/-- Where the new cells come from. -/
def Src (P : Program) (w : World) (size : Nat) (y : Value) (m : Nat) (news : List Value) : Prop :=
  ∃ a c, y = .slice a m c ∧ ∀ w' : World, w'.heap = w.heap → (Builtin.firstCells size m y).run P w' = .ok news.toArray w'

theorem Src.of_cells {size m c : Nat} {ad : Addr} {news : List Value} (hl : news.length = m * size) (h : ∀ j u, news[j]? = some u → w.cell? (ad.add j) = some u) : Src P w size (.slice (some ad) m c) m news :=
  ⟨some ad, c, rfl, fun w' hw => run_firstCells_some (P := P) w' size m ad m c news hl (fun j u hj => by
    have := h j u hj
    unfold World.cell? at this ⊢
    rw [hw]; exact this)⟩

theorem Src.nil {size c : Nat} {ad : Option Addr} : Src P w size (.slice ad 0 c) 0 [] :=
  ⟨ad, c, rfl, fun w' _ => by cases ad <;> simp [Builtin.firstCells, loadCells, loadCellsFrom]⟩

theorem readSl_sound (h : RSt E0 w0 n E w st a) {sz : Nat} {xv : V} {y : Value} {c : Prop} {xs : List (List V)} (hr : readSl st sz xv = some (c, xs)) (hc : c) (hsz : 0 < sz) (hy : RO E w xv y) :
    ∃ news : List Value, RL E w xs.flatten news ∧ (∀ e ∈ xs, e.length = sz) ∧ Src P w sz y xs.length news := by
  unfold readSl at hr
  split at hr
  · simp only [Option.some.injEq, Prod.mk.injEq] at hr
    obtain ⟨rfl, rfl⟩ := hr
    rename_i es
    simp only [RO, R] at hy
    obtain ⟨ad, cap, rfl, h1, h2, h3⟩ := hy
    rcases h3 with rfl | ⟨b, off, sz', rfl, hb, hn, hre⟩
    · exact ⟨[], by simp [RL], by simp, Src.nil⟩
    · cases es with
      | nil => exact ⟨[], by simp [RL], by simp, Src.nil⟩
      | cons e0 es0 =>
        have hsz' : sz' = sz := by
          have h4 := hre
          simp only [RE] at h4
          rw [← h4.1]; exact hc e0 (by simp)
        subst hsz'
        obtain ⟨news, g1, g2⟩ := hre.flat.read
        have hlen : (e0 :: es0).flatten.length = (e0 :: es0).length * sz' := by
          have : ∀ l : List (List V), (∀ e ∈ l, e.length = sz') → l.flatten.length = l.length * sz' := by
            intro l
            induction l with
            | nil => simp
            | cons x l ih => intro hh; rw [List.flatten_cons, List.length_append, ih (fun e he => hh e (by simp [he])), hh x (by simp), List.length_cons, Nat.succ_mul]; omega
          exact this _ hc
        refine ⟨news, g1, hc, Src.of_cells (by rw [← g1.length, hlen]) (fun j u hj => ?_)⟩
        rw [addr_add]
        exact g2 j u hj
  · simp only [Option.some.injEq, Prod.mk.injEq] at hr
    obtain ⟨rfl, rfl⟩ := hr
    simp only [RO, R] at hy
    subst hy
    exact ⟨[], by simp [RL], by simp, Src.nil⟩
  · simp only [Option.some.injEq, Prod.mk.injEq] at hr
    obtain ⟨rfl, rfl⟩ := hr
    simp only [RO, R] at hy
    obtain ⟨ad, rfl⟩ := hy
    exact ⟨[], by simp [RL], by simp, Src.nil⟩
  · rename_i s g off len
    split at hr <;> simp at hr
    rename_i g' cs hfr
    obtain ⟨e, rfl⟩ := hr
    obtain ⟨rfl, hfit⟩ := e.2 hc
    simp only [RO] at hy
    obtain ⟨b, hb, rfl, _⟩ := hy
    have hsl := h.fr s
    rw [hfr] at hsl
    simp only [RS] at hsl
    obtain ⟨b', arr, ty, hb', _, hh, hcs⟩ := hsl
    rw [hb] at hb'; cases hb'
    obtain ⟨k1, k2, k3⟩ := chunks_flat (sz := sz) (n := len) (cs := cs.drop off) (by simp; omega)
    refine ⟨(arr.toList.drop off).take (len * sz), by rw [k1]; exact (hcs.drop off).take _, k2, ?_⟩
    rw [k3]
    have hclen := hcs.length
    simp at hclen
    refine Src.of_cells (by simp; omega) (fun j u hj => ?_)
    rw [addr_add]
    have hj' : arr[off + j]? = some u := by
      rw [List.getElem?_take] at hj
      split at hj
      · rw [List.getElem?_drop] at hj; simpa using hj
      · cases hj
    simp [World.cell?, hh, hj']
  · rename_i o off len cap
    split at hr <;> simp at hr
    rename_i cs hM
    obtain ⟨e, rfl⟩ := hr
    have hfit := e.2 hc
    simp only [RO, R] at hy
    obtain ⟨b, hb, rfl, _⟩ := hy
    obtain ⟨b', hb', arr, ty, hh, hcs⟩ := h.heap o _ hM
    rw [hb] at hb'; cases hb'
    obtain ⟨k1, k2, k3⟩ := chunks_flat (sz := sz) (n := len) (cs := cs.drop off) (by simp; omega)
    refine ⟨(arr.toList.drop off).take (len * sz), by rw [k1]; exact (hcs.drop off).take _, k2, ?_⟩
    rw [k3]
    have hclen := hcs.length
    simp at hclen
    refine Src.of_cells (by simp; omega) (fun j u hj => ?_)
    rw [addr_add]
    have hj' : arr[off + j]? = some u := by
      rw [List.getElem?_take] at hj
      split at hj
      · rw [List.getElem?_drop] at hj; simpa using hj
      · cases hj
    simp [World.cell?, hh, hj']
  · cases hr

/-! ### The model's append -/
theorem append_stay {t ty e : TypeId} {i : TypeInfo} (ht : P.underlying t = some (.slice e)) (hi : P.info? e = some i) {y : Value} {news : List Value} (hs : Src P w i.size y 0 news) :
    (Builtin.append_ #[t, t] ty #[.slice none 0 0, y]).run P w = .ok (.slice none 0 0) w := by
  obtain ⟨ad, c, rfl, hf⟩ := hs
  have := hf w rfl
  simp [Builtin.append_, run_underlying ht, sizeOf, typeInfo, hi, Builtin.lenOf, this]

theorem append_stay_emp {t ty e : TypeId} {i : TypeInfo} (ht : P.underlying t = some (.slice e)) (hi : P.info? e = some i) {y : Value} {ad0 : Option Addr} (hs : Src P w i.size y 0 []) :
    (Builtin.append_ #[t, t] ty #[.slice ad0 0 0, y]).run P w = .ok (.slice ad0 0 0) w := by
  obtain ⟨ad, c, rfl, hf⟩ := hs
  have := hf w rfl
  cases ad0 <;> simp [Builtin.append_, run_underlying ht, sizeOf, typeInfo, hi, Builtin.lenOf, this, storeCells]

theorem append_room {t ty e : TypeId} {i : TypeInfo} (ht : P.underlying t = some (.slice e)) (hi : P.info? e = some i) {b len cap m : Nat} {arr : Array Value} {bt : TypeId} (hh : w.heap[b]? = some (.cells arr bt (0, 0)))
    {y : Value} {news : List Value} (hs : Src P w i.size y m news) (h1 : ∀ u ∈ news, u.oneCell' = true) (hroom : len + m ≤ cap) (hfit : len * i.size + news.length ≤ arr.size) :
    ∃ w' arr', (Builtin.append_ #[t, t] ty #[.slice (some ⟨b, 0, none⟩) len cap, y]).run P w = .ok (.slice (some ⟨b, 0, none⟩) (len + m) cap) w' ∧
      w'.heap[b]? = some (.cells arr' bt (0, 0)) ∧ arr'.toList = arr.toList.take (len * i.size) ++ news ++ arr.toList.drop (len * i.size + news.length) ∧ Wr w w' b := by
  obtain ⟨ad, c, rfl, hf⟩ := hs
  have hf := hf w rfl
  obtain ⟨w', arr', g1, g2, g3, g4⟩ := storeCells_ok (P := P) (b := b) (off := len * i.size) (ty := bt) news 0 w arr hh (by omega) h1
  simp only [Nat.add_zero] at g1 g3
  refine ⟨w', arr', ?_, g2, g3, g4⟩
  simp [Builtin.append_, run_underlying ht, sizeOf, typeInfo, hi, Builtin.lenOf, hroom, hf, Addr.add_lit, g1]

theorem append_grow {t ty e : TypeId} {i : TypeInfo} {z : Value} (ht : P.underlying t = some (.slice e)) (hi : P.info? e = some i) (hz : i.zero = some z) {base : Option Addr} {len cap m : Nat} {olds : List Value}
    (ho : ∀ w' : World, w'.heap = w.heap → (Builtin.firstCells i.size len (.slice base len cap)).run P w' = .ok olds.toArray w')
    {y : Value} {news : List Value} (hs : Src P w i.size y m news) (hg : cap < len + m) (h63 : ((len + m : Nat) : Int) ≤ 9223372036854775807) (hb : (len + m) * i.bytes ≤ 140737488355328) :
    (Builtin.append_ #[t, t] ty #[.slice base len cap, y]).run P w =
      .ok (.slice (some ⟨w.heap.size, 0, none⟩) (len + m) (grownCap w (len + m) cap e)) (w.drew.alloc (.cells (olds.toArray ++ news.toArray ++ Builtin.zeroCells z.cells (grownCap w (len + m) cap e - (len + m))) e)) := by
  obtain ⟨ad, c, rfl, hf⟩ := hs
  have hf := hf w.drew rfl
  have ho := ho w.drew rfl
  have hn : ¬ (len + m ≤ cap) := by omega
  have h63' : ¬ (9223372036854775807 < ((len : Int) + (m : Int))) := by omega
  have h48' : ¬ (281474976710656 < Builtin.nextslicecap (len + m) cap * i.bytes) := by have := growslice_fits (need := len + m) (old := cap) (bytes := i.bytes) (by omega) hb; omega
  simp [Builtin.append_, run_underlying ht, sizeOf, typeInfo, zeroValue, hi, hz, Builtin.lenOf, hn, h63', h48', Question.forced, hf, ho, newRow, grownCap]
  congr 2
  apply Array.ext'
  simp [List.append_assoc]

/-! ### A slice that is built -/
theorem partsV_sound {fr : Nat → V} (hf : FR E w fr a.tmps) {sz : Nat} : ∀ (ps : List (Nat × Operand)) (k : Nat) (arr : Array Value) (c : Prop) (es : List (List V)), partsV fr sz k ps = some (c, es) → c → (k + ps.length) * sz ≤ arr.size →
    ∃ (out : Array Value) (xs : List Value), Instr.fill (fun i => some (i * sz, sz)) arr (ps.map fun p => (p.1, a.eval p.2)) = some out ∧ RL E w es.flatten xs ∧ out.toList = arr.toList.take (k * sz) ++ xs ++ arr.toList.drop ((k + ps.length) * sz) ∧
      (∀ e ∈ es, e.length = sz) ∧ es.length = ps.length ∧ xs.length = ps.length * sz
  | [], k, arr, c, es, h, hc, hs => by
    simp only [partsV, Option.some.injEq, Prod.mk.injEq] at h
    obtain ⟨rfl, rfl⟩ := h
    exact ⟨arr, [], by simp [Instr.fill], by simp [RL], by simp, by simp, rfl, by simp⟩
  | (i, x) :: ps, k, arr, c, es, h, hc, hs => by
    unfold partsV at h
    split at h <;> try (cases h; done)
    rename_i hik
    subst hik
    split at h <;> simp at h
    rename_i g v g' es' h1 h2
    obtain ⟨e, rfl⟩ := h
    rw [← e] at hc
    obtain ⟨k1, k2, k3, k4, k5⟩ := hc
    have hv := (opv_sound h1 k1 hf).of_tag (by omega)
    have hcells := R.cells' k2 hv
    have hlen := hcells.length
    simp at hlen
    have hxs : (a.eval x).cells.size = sz := by omega
    simp only [List.length_cons] at hs
    have hs1 : (i + 1 + ps.length) * sz ≤ arr.size := by rw [show i + 1 + ps.length = i + (ps.length + 1) by omega]; exact hs
    have hs2 : (i + 1) * sz ≤ arr.size := Nat.le_trans (Nat.mul_le_mul_right _ (by omega)) hs1
    have hs3 : i * sz + sz ≤ arr.size := by rw [Nat.succ_mul] at hs2; exact hs2
    have hnew := setRange (i * sz) (a.eval x).cells.toList arr 0 (by simp; omega)
    simp only [Nat.add_zero, Array.length_toList, hxs] at hnew
    have hfold : (a.eval x).cells.zipIdx.foldl (fun cs (c, j) => cs.setIfInBounds (i * sz + j) c) arr = ((a.eval x).cells.toList.zipIdx 0).foldl (fun cs (c, j) => cs.setIfInBounds (i * sz + j) c) arr := by
      rw [← Array.foldl_toList, Array.toList_zipIdx]
    have hsize : (((a.eval x).cells.toList.zipIdx 0).foldl (fun cs (c, j) => cs.setIfInBounds (i * sz + j) c) arr).size = arr.size := by
      rw [← Array.length_toList, hnew]
      simp [hxs]
      omega
    obtain ⟨out, xs, g1, g2, g3, g4, g5, g6⟩ := partsV_sound hf ps (i + 1) (((a.eval x).cells.toList.zipIdx 0).foldl (fun cs (c, j) => cs.setIfInBounds (i * sz + j) c) arr) g' es' h2 k5 (by rw [hsize]; exact hs1)
    refine ⟨out, (a.eval x).cells.toList ++ xs, ?_, ?_, ?_, ?_, by simp [g5], ?_⟩
    · simp only [List.map_cons, Instr.fill]
      rw [if_neg (by
        simp only [hxs, ne_eq, not_true_eq_false, false_or]
        simp; omega)]
      rw [hfold]
      exact g1
    · rw [List.flatten_cons]; exact hcells.append g2
    · rw [g3, hnew]
      have e1 : (arr.toList.take (i * sz) ++ (a.eval x).cells.toList ++ arr.toList.drop (i * sz + sz)).take ((i + 1) * sz) = arr.toList.take (i * sz) ++ (a.eval x).cells.toList := by
        rw [List.take_append_of_le_length (by simp [hxs]; rw [Nat.succ_mul]; omega)]
        apply List.take_of_length_le
        simp [hxs]; rw [Nat.succ_mul]; omega
      have e2 : (arr.toList.take (i * sz) ++ (a.eval x).cells.toList ++ arr.toList.drop (i * sz + sz)).drop ((i + 1 + ps.length) * sz) = arr.toList.drop ((i + (ps.length + 1)) * sz) := by
        have hl1 : (arr.toList.take (i * sz) ++ (a.eval x).cells.toList).length = i * sz + sz := by simp [hxs]; omega
        rw [List.drop_append, hl1, List.drop_of_length_le (by rw [hl1, show (i + 1 + ps.length) * sz = i * sz + sz + ps.length * sz by rw [Nat.add_mul, Nat.succ_mul]]; omega)]
        rw [List.nil_append, List.drop_drop]
        congr 1
        rw [show (i + 1 + ps.length) * sz = i * sz + sz + ps.length * sz by rw [Nat.add_mul, Nat.succ_mul], show (i + (ps.length + 1)) * sz = i * sz + sz + ps.length * sz by rw [Nat.add_mul, Nat.succ_mul]; omega]
        omega
      rw [e1, e2]
      simp only [List.length_cons, List.append_assoc]
    · simp only [List.mem_cons, forall_eq_or_imp]
      exact ⟨k3, g4⟩
    · simp [g6, hxs, Nat.succ_mul]; omega

theorem inv_alloc (h : Inv E0 w0 E w) (o : Obj) : Inv E0 w0 E (w.alloc o) where
  size := by have := h.size; simp; omega
  obm := h.obm
  obn := h.obn
  bxn := h.bxn
  ex := h.ex
  exlt := h.exlt
  keep := fun b hb hn => by rw [heap_old o (by have := h.size; omega)]; exact h.keep b hb hn
  os := h.os
  tape := h.tape
  output := h.output
  oblt := fun o' b hb => by have := h.oblt o' b hb; simp; omega
  bxlt := fun s g b hb => by have := h.bxlt s g b hb; simp; omega
  obinj := h.obinj
  bxinj := h.bxinj
  obbx := h.obbx
  fin := h.fin

theorem grow_alloc (E : Env) (w : World) (o : Obj) : Grow E w E (w.alloc o) where
  later := ⟨by simp, fun _ _ h => h, fun _ _ h => h, fun b hb _ => heap_old o hb⟩
  bx := fun _ _ _ h => h
  all := fun b hb => heap_old o hb

theorem RM.drop' : ∀ {l r : List V} {b off : Nat}, RM E w (l ++ r) b off → RM E w l b off ∧ RM E w r b (off + l.length)
  | [], r, b, off, h => ⟨by simp [RM], by simpa using h⟩
  | v :: l, r, b, off, h => by
    simp only [List.cons_append, RM] at h ⊢
    obtain ⟨g1, g2⟩ := RM.drop' h.2
    exact ⟨⟨h.1, g1⟩, by rw [show off + (v :: l).length = off + 1 + l.length by simp; omega]; exact g2⟩

theorem RE.of_flat {sz : Nat} : ∀ {es : List (List V)} {b off : Nat}, (∀ e ∈ es, e.length = sz) → RM E w es.flatten b off → RE E w es b off sz
  | [], b, off, _, _ => by simp [RE]
  | e :: es, b, off, h, hm => by
    rw [List.flatten_cons] at hm
    obtain ⟨g1, g2⟩ := hm.drop'
    simp only [RE]
    exact ⟨h e (by simp), g1, RE.of_flat (fun e' h' => h e' (by simp [h'])) (by rw [← h e (by simp)]; exact g2)⟩

theorem mem_delKV {d : TypeDesc} {key : V} {x : Value} (hk : keyKind d key = true) (hr : R E w key x) : ∀ (kvs r : List (V × V)) (es : List MapEntry) (i : Nat), delKV key kvs = some r → RKV E w kvs es →
    (Instr.findNow d x es i = some none ∧ RKV E w r es) ∨ (∃ j z, Instr.findNow d x es i = some (some (i + j, z)) ∧ j < es.length ∧ RKV E w r (es.eraseIdx j))
  | [], r, es, i, h, hkv => by
    simp [delKV] at h; subst h
    simp [RKV] at hkv; subst hkv
    exact .inl ⟨by simp [Instr.findNow], by simp [RKV]⟩
  | (k, u) :: kvs, r, es, i, h, hkv => by
    simp only [RKV] at hkv
    obtain ⟨e, rest, rfl, h1, h2, h3⟩ := hkv
    have hsame : ∀ b, keyEq key k = some b → Instr.sameNow d x e.key = some b := by
      intro b hb
      cases key <;> cases k <;> simp [keyEq] at hb <;> cases d <;> simp [keyKind] at hk
      · simp only [R] at hr h1; subst hr; rw [h1]; subst hb; simp [Instr.sameNow]
      · obtain ⟨rfl, rfl⟩ := hb; simp only [R] at hr h1; subst hr; rw [h1]; simp [Instr.sameNow]
      · simp only [R] at hr h1; obtain ⟨rfl, _⟩ := hr; rw [h1.1]; subst hb; simp [Instr.sameNow, bytes_beq]
    unfold delKV at h
    cases hq : keyEq key k with
    | none => simp [hq] at h
    | some b =>
      have s1 := hsame b hq
      simp only [hq] at h
      cases b with
      | true =>
        simp at h; subst h
        exact .inr ⟨0, e.val, by simp [Instr.findNow, s1], by simp, by simpa using h3⟩
      | false =>
        simp only at h
        split at h <;> simp at h
        rename_i r' hr'
        subst h
        rcases mem_delKV hk hr kvs r' rest (i + 1) hr' h3 with ⟨g1, g2⟩ | ⟨j, z, g1, g2, g3⟩
        · left
          refine ⟨by simpa [Instr.findNow, s1] using g1, ?_⟩
          simp only [RKV]
          exact ⟨e, _, rfl, h1, h2, g2⟩
        · right
          refine ⟨j + 1, z, by rw [show i + (j + 1) = i + 1 + j by omega]; simpa [Instr.findNow, s1] using g1, by simpa using g2, ?_⟩
          simp only [List.eraseIdx_cons_succ, RKV]
          exact ⟨e, _, rfl, h1, h2, g3⟩
end
end Go.Eng
