/- EntryNil: whatever the input, the law returns true, and each argument reads behind the call as it read before. No condition. -/
import Derived.Test.YtjcjoeechmlpgaaGreatDC
import Derived.Test.YtjcjoeechmlpgaaGreatGB
import Derived.Test.YtjcjoeechmlpgaaGreatRows
import Derived.ProofKit
namespace Go.Proofs.YtjcjoeechmlpgaaGreat
open Go.ChangeShapes Go.WideShapes Go.ChangeAt Go.RowKit Go.Eng Go.Eng.Tryz
set_option linter.unusedSimpArgs false
set_option linter.unusedVariables false

theorem Tryz.own : ownKnob Tryz.prog.godebug = none := by kernel_rfl
theorem Tryz.laidOut : laidOutB Tryz.prog = true := by kernel_rfl

def lMeta : List Leaf := [.str, .bool, .int .i64, .int .i64, .int .i64, .int .i64, .int .i64, .int .i64, .slice [.str], .str, .bool]
def lAct : List Leaf := [.int .u8, .str, .int .i64, .str, .bool, .int .i64, .int .i64, .int .i64, .int .i64, .int .i64, .int .i64, .slice [.str], .str, .bool, .int .i64, .int .i64, .int .i64, .int .i64, .int .i64, .int .i64, .int .i64, .int .i64, .int .i64, .int .i64, .int .i64]

theorem leaf_strs : ∀ {es : List (List V)}, (∀ e ∈ es, LeafsV [.str] e) → ∃ ks, es = sl ks
  | [], _ => ⟨[], rfl⟩
  | e :: es, h => by
    obtain ⟨ks, hk⟩ := leaf_strs (es := es) (fun e' h' => h e' (by simp [h']))
    have := h e (by simp)
    simp only [LeafsV, LeafV] at this
    obtain ⟨u, us, rfl, ⟨s, rfl, _⟩, rfl⟩ := this
    exact ⟨s :: ks, by rw [hk]; rfl⟩

theorem leaf_act {vs : List V} (h : LeafsV lAct vs) : ∃ a : ActD, vs = actL a := by
  simp only [lAct, LeafsV, LeafV] at h
  obtain ⟨_, _, rfl, ⟨a1, rfl, _⟩, _, _, rfl, ⟨a2, rfl, _⟩, _, _, rfl, ⟨a3, rfl, _⟩, _, _, rfl, ⟨a4, rfl, _⟩, _, _, rfl, ⟨a5, rfl⟩, _, _, rfl, ⟨a6, rfl, _⟩, _, _, rfl, ⟨a7, rfl, _⟩, _, _, rfl, ⟨a8, rfl, _⟩, _, _, rfl, ⟨a9, rfl, _⟩, _, _, rfl, ⟨b0, rfl, _⟩, _, _, rfl, ⟨b1, rfl, _⟩, _, _, rfl, ⟨es, rfl, _, he⟩, _, _, rfl, ⟨b2, rfl, _⟩, _, _, rfl, ⟨b3, rfl⟩, h⟩ := h
  obtain ⟨_, _, rfl, ⟨b4, rfl, _⟩, _, _, rfl, ⟨b5, rfl, _⟩, _, _, rfl, ⟨b6, rfl, _⟩, _, _, rfl, ⟨b7, rfl, _⟩, _, _, rfl, ⟨b8, rfl, _⟩, _, _, rfl, ⟨b9, rfl, _⟩, _, _, rfl, ⟨c0, rfl, _⟩, _, _, rfl, ⟨c1, rfl, _⟩, _, _, rfl, ⟨c2, rfl, _⟩, _, _, rfl, ⟨c3, rfl, _⟩, _, _, rfl, ⟨c4, rfl, _⟩, rfl⟩ := h
  obtain ⟨ks, rfl⟩ := leaf_strs (fun e h' => by simp only [LeafsV, LeafV]; exact he e h')
  exact ⟨⟨a1, a2, a3, ⟨a4, a5, a6, a7, a8, a9, b0, b1, ks, b2, b3⟩, b4, b5, b6, b7, b8, b9, c0, c1, c2, c3, c4⟩, rfl⟩

def zAct : Value := .agg #[.int .u8 0, .string ⟨#[]⟩, .int .i64 0, .string ⟨#[]⟩, .bool false, .int .i64 0, .int .i64 0, .int .i64 0, .int .i64 0, .int .i64 0, .int .i64 0, .slice none 0 0, .string ⟨#[]⟩, .bool false, .int .i64 0, .int .i64 0, .int .i64 0, .int .i64 0, .int .i64 0, .int .i64 0, .int .i64 0, .int .i64 0, .int .i64 0, .int .i64 0, .int .i64 0]

set_option maxRecDepth 100000 in
theorem entryNil_lifted (os : Os) (started : os.Started) (H : Type) (enc : TypeId × Value → H) :
    ReturnsInHanded {} Tryz.checked os 8 .any (Rows.entryNilSpec.pre6 enc Tryz.prog Tryz.f8 Rows.entryNilRow.domain false) (Rows.entryNilSpec.post enc Tryz.prog Tryz.f8 false true false false) :=
  law_lifted (C := Tryz.checked) (ls := [(true, lAct)]) (tb := 4) Tryz.own started (by kernel_rfl) Tryz.func8
    (ChangeSpec.witness6 (enc := enc) (C := Tryz.checked) false ⟨#[], #[zAct], []⟩ 8 (by kernel_rfl) (by kernel_rfl) (by kernel_rfl) (by kernel_rfl))
    Tryz.laidOut (by decide +kernel) rfl (by kernel_rfl) (by kernel_rfl) (by kernel_rfl) (fun ds h => match ds, h with | [_], _ => ⟨rfl, rfl, rfl⟩)
    (fun vs h => by
      simp only [ArgsV, ArgV] at h
      obtain ⟨_, _, rfl, ⟨v1, rfl, h1⟩, rfl⟩ := h
      obtain ⟨a, rfl⟩ := leaf_act h1
      exact (s8 a _).mono fun _ _ h => h.1)

set_option maxRecDepth 100000 in
theorem entryNil_holds : Rows.EntryNilSaid :=
  OpenClaim.holds_of_wide 8 Tryz.f8 rfl rfl rfl rfl rfl rfl rfl ⟨rfl, rfl, rfl, rfl, rfl⟩ rfl rfl rfl rfl rfl (by kernel_rfl) Tryz.func8 (by kernel_rfl)
    (of_decide_eq_true (by kernel_rfl)) (by unfold Func.isWrapper; first | (rw [if_pos (by decide +kernel)]; kernel_rfl) | (rw [if_neg (by decide +kernel)]; exact ⟨rfl, rfl⟩))
    (fun os started H enc _ => entryNil_lifted os started H enc)

#print axioms entryNil_holds
end Go.Proofs.YtjcjoeechmlpgaaGreat
