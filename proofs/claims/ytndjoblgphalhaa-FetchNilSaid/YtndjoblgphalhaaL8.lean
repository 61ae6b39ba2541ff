/- FetchNil: whatever the input, the law returns true, and each argument reads behind the call as it read before. No condition. -/
import Derived.Test.YtndjoblgphalhaaT16
namespace Go.Proofs.Ytndjoblgphalhaa
open Go.ChangeShapes Go.WideShapes Go.ChangeAt Go.RowKit Go.Eng Go.Eng.Try

set_option maxRecDepth 100000 in
theorem fetchNil_lifted (os : Os) (started : os.Started) (H : Type) (enc : TypeId × Value → H) :
    ReturnsInHanded {} Try.checked os 8 .any (Rows.fetchNilSpec.pre6 enc Try.prog Try.f8 Rows.fetchNilRow.domain false) (Rows.fetchNilSpec.post enc Try.prog Try.f8 false true false false) :=
  law_lifted (C := Try.checked) (ls := [(true, lAct)]) (tb := 4) Try.own started (by kernel_rfl) Try.func8
    (ChangeSpec.witness6 (enc := enc) (C := Try.checked) false ⟨#[], #[zAct], []⟩ 8 (by kernel_rfl) (by kernel_rfl) (by kernel_rfl) (by kernel_rfl))
    Try.laidOut (by decide +kernel) rfl (by kernel_rfl) (by kernel_rfl) (by kernel_rfl) (fun ds h => match ds, h with | [_], _ => ⟨rfl, rfl, rfl⟩)
    (fun vs h => by
      simp only [ArgsV, ArgV] at h
      obtain ⟨_, _, rfl, ⟨v1, rfl, h1⟩, rfl⟩ := h
      obtain ⟨⟨k, r, n, w⟩, rfl⟩ := leaf_act h1
      exact (s8 k n w r _).mono fun _ _ h => h.1)

theorem fetchNil_holds : Rows.FetchNilSaid :=
  OpenClaim.holds_of_wide 8 Try.f8 rfl rfl rfl rfl rfl rfl rfl ⟨rfl, rfl, rfl, rfl, rfl⟩ rfl rfl rfl rfl rfl (by kernel_rfl) Try.func8 (by kernel_rfl)
    (of_decide_eq_true (by kernel_rfl)) (by unfold Func.isWrapper; first | (rw [if_pos (by decide +kernel)]; kernel_rfl) | (rw [if_neg (by decide +kernel)]; exact ⟨rfl, rfl⟩))
    (fun os started H enc _ => fetchNil_lifted os started H enc)

end Go.Proofs.Ytndjoblgphalhaa
