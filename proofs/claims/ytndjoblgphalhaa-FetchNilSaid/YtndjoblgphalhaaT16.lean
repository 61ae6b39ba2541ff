/- The laws of this chapter, as the rows have them: whatever the input, each returns true. No condition. -/
import Derived.Test.YtndjoblgphalhaaT15c
import Derived.Test.YtndjoblgphalhaaG3
import Derived.Test.YtndjoblgphalhaaRows
import Derived.ProofKit
namespace Go.Proofs.Ytndjoblgphalhaa
open Go.ChangeShapes Go.WideShapes Go.ChangeAt Go.RowKit Go.Eng Go.Eng.Try
set_option linter.unusedSimpArgs false
set_option linter.unusedVariables false

theorem Try.own : ownKnob Try.prog.godebug = none := by kernel_rfl
theorem Try.laidOut : laidOutB Try.prog = true := by kernel_rfl

def lFetch : List Leaf := [.str, .int .i64, .int .i64, .str, .bool, .str, .bool]
def lReply : List Leaf := [.int .i64, .str, .bool, .int .i64, .int .i64, .int .i64, .int .i64, .int .i64, .int .i64, .slice [.str], .str, .bool, .int .i64, .int .i64, .int .i64]
def lAct : List Leaf := .int .u8 :: lReply ++ [.int .i64, .bool]

theorem leaf_strs : ∀ {es : List (List V)}, (∀ e ∈ es, LeafsV [.str] e) → ∃ ks, es = sl ks
  | [], _ => ⟨[], rfl⟩
  | e :: es, h => by
    obtain ⟨ks, hk⟩ := leaf_strs (es := es) (fun e' h' => h e' (by simp [h']))
    have := h e (by simp)
    simp only [LeafsV, LeafV] at this
    obtain ⟨u, us, rfl, ⟨s, rfl, _⟩, rfl⟩ := this
    exact ⟨s :: ks, by rw [hk]; rfl⟩

theorem leaf_fetch {vs : List V} (h : LeafsV lFetch vs) : ∃ f : FetchD, vs = f.c := by
  simp only [lFetch, LeafsV, LeafV] at h
  obtain ⟨_, _, rfl, ⟨a1, rfl, _⟩, _, _, rfl, ⟨a2, rfl, _⟩, _, _, rfl, ⟨a3, rfl, _⟩, _, _, rfl, ⟨a4, rfl, _⟩, _, _, rfl, ⟨a5, rfl⟩, _, _, rfl, ⟨a6, rfl, _⟩, _, _, rfl, ⟨a7, rfl⟩, rfl⟩ := h
  exact ⟨⟨a1, a2, a3, a4, a5, a6, a7⟩, rfl⟩

theorem leaf_reply' {tl : List Leaf} {vs : List V} (h : LeafsV (lReply ++ tl) vs) : ∃ (r : ReplyD) (us : List V), vs = r.c ++ us ∧ LeafsV tl us := by
  simp only [lReply, List.cons_append, List.nil_append, LeafsV, LeafV] at h
  obtain ⟨_, _, rfl, ⟨a1, rfl, _⟩, _, _, rfl, ⟨a2, rfl, _⟩, _, _, rfl, ⟨a3, rfl⟩, _, _, rfl, ⟨a4, rfl, _⟩, _, _, rfl, ⟨a5, rfl, _⟩, _, _, rfl, ⟨a6, rfl, _⟩, _, _, rfl, ⟨a7, rfl, _⟩, _, _, rfl, ⟨a8, rfl, _⟩, _, _, rfl, ⟨a9, rfl, _⟩, _, _, rfl, ⟨es, rfl, _, he⟩, _, _, rfl, ⟨b1, rfl, _⟩, _, _, rfl, ⟨b2, rfl⟩, _, _, rfl, ⟨b3, rfl, _⟩, _, _, rfl, ⟨b4, rfl, _⟩, _, us, rfl, ⟨b5, rfl, _⟩, h⟩ := h
  obtain ⟨ks, rfl⟩ := leaf_strs (fun e h' => by simp only [LeafsV, LeafV]; exact he e h')
  exact ⟨⟨a1, ⟨a2, a3, a4, a5, a6, a7, a8, a9, ks, b1, b2⟩, b3, b4, b5⟩, us, rfl, h⟩

theorem leaf_reply {vs : List V} (h : LeafsV lReply vs) : ∃ r : ReplyD, vs = r.c := by
  obtain ⟨r, us, rfl, hu⟩ := leaf_reply' (tl := []) (by simpa using h)
  simp only [LeafsV] at hu
  subst hu
  exact ⟨r, by simp⟩

theorem leaf_act {vs : List V} (h0 : LeafsV lAct vs) : ∃ a : ActD, vs = a.c := by
  have h1 : ∃ u us, vs = u :: us ∧ LeafV (.int .u8) u ∧ LeafsV (lReply ++ [.int .i64, .bool]) us := by
    unfold lAct at h0
    rw [List.cons_append] at h0
    unfold LeafsV at h0
    exact h0
  obtain ⟨u, us, rfl, hk, h2⟩ := h1
  obtain ⟨r, us', rfl, h3⟩ := leaf_reply' h2
  simp only [LeafsV, LeafV] at h3 hk
  obtain ⟨k, rfl, hwf⟩ := hk
  obtain ⟨_, _, rfl, ⟨n, rfl, _⟩, _, _, rfl, ⟨w, rfl⟩, rfl⟩ := h3
  exact ⟨⟨k, r, n, w⟩, rfl⟩

theorem leaf_acts : ∀ {es : List (List V)}, (∀ e ∈ es, LeafsV lAct e) → ∃ l, es = al l
  | [], _ => ⟨[], rfl⟩
  | e :: es, h => by
    obtain ⟨l, hl⟩ := leaf_acts (es := es) (fun e' h' => h e' (by simp [h']))
    obtain ⟨a, ha⟩ := leaf_act (h e (by simp))
    exact ⟨a :: l, by rw [hl, ha]; rfl⟩

theorem leaf_ints : ∀ {es : List (List V)}, (∀ e ∈ es, LeafsV [.int .i64] e) → ∃ l, es = nl l
  | [], _ => ⟨[], rfl⟩
  | e :: es, h => by
    obtain ⟨l, hl⟩ := leaf_ints (es := es) (fun e' h' => h e' (by simp [h']))
    have := h e (by simp)
    simp only [LeafsV, LeafV] at this
    obtain ⟨u, us, rfl, ⟨n, rfl, _⟩, rfl⟩ := this
    exact ⟨n :: l, by rw [hl]; rfl⟩

def zFetch : Value := .agg #[.string ⟨#[]⟩, .int .i64 0, .int .i64 0, .string ⟨#[]⟩, .bool false, .string ⟨#[]⟩, .bool false]
def zReply : Array Value := #[.int .i64 0, .string ⟨#[]⟩, .bool false, .int .i64 0, .int .i64 0, .int .i64 0, .int .i64 0, .int .i64 0, .int .i64 0, .slice none 0 0, .string ⟨#[]⟩, .bool false, .int .i64 0, .int .i64 0, .int .i64 0]
def zAct : Value := .agg #[.int .u8 0, .int .i64 0, .string ⟨#[]⟩, .bool false, .int .i64 0, .int .i64 0, .int .i64 0, .int .i64 0, .int .i64 0, .int .i64 0, .slice none 0 0, .string ⟨#[]⟩, .bool false, .int .i64 0, .int .i64 0, .int .i64 0, .int .i64 0, .bool false]

end Go.Proofs.Ytndjoblgphalhaa
