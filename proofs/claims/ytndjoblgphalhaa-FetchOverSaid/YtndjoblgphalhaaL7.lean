/- FetchOver: whatever the input, the law returns true, and each argument reads behind the call as it read before. No condition. -/
import Derived.Test.YtndjoblgphalhaaT16
namespace Go.Proofs.Ytndjoblgphalhaa
open Go.ChangeShapes Go.WideShapes Go.ChangeAt Go.RowKit Go.Eng Go.Eng.Try

set_option maxRecDepth 100000 in
theorem fetchOver_lifted (os : Os) (started : os.Started) (H : Type) (enc : TypeId × Value → H) :
    ReturnsInHanded {} Try.checked os 7 .any (Rows.fetchOverSpec.pre6 enc Try.prog Try.f7 Rows.fetchOverRow.domain false) (Rows.fetchOverSpec.post enc Try.prog Try.f7 false true false false) :=
  law_lifted (C := Try.checked) (ls := [(true, lFetch), (true, lReply), (true, lAct)]) (tb := 4) Try.own started (by kernel_rfl) Try.func7
    (ChangeSpec.witness6 (enc := enc) (C := Try.checked) false ⟨#[], #[zFetch, .agg zReply, zAct], []⟩ 8 (by kernel_rfl) (by kernel_rfl) (by kernel_rfl) (by kernel_rfl))
    Try.laidOut (by decide +kernel) rfl (by kernel_rfl) (by kernel_rfl) (by kernel_rfl) (fun ds h => match ds, h with | [_, _, _], _ => ⟨rfl, rfl, rfl⟩)
    (fun vs h => by
      simp only [ArgsV, ArgV] at h
      obtain ⟨_, _, rfl, ⟨v1, rfl, h1⟩, _, _, rfl, ⟨v2, rfl, h2⟩, _, _, rfl, ⟨v3, rfl, h3⟩, rfl⟩ := h
      obtain ⟨f, rfl⟩ := leaf_fetch h1
      obtain ⟨r, rfl⟩ := leaf_reply h2
      obtain ⟨a, rfl⟩ := leaf_act h3
      exact s7 f r a _)

theorem fetchOver_holds : Rows.FetchOverSaid :=
  OpenClaim.holds_of_wide 7 Try.f7 rfl rfl rfl rfl rfl rfl rfl ⟨rfl, rfl, rfl, rfl, rfl⟩ rfl rfl rfl rfl rfl (by kernel_rfl) Try.func7 (by kernel_rfl)
    (of_decide_eq_true (by kernel_rfl)) (by unfold Func.isWrapper; first | (rw [if_pos (by decide +kernel)]; kernel_rfl) | (rw [if_neg (by decide +kernel)]; exact ⟨rfl, rfl⟩))
    (fun os started H enc _ => fetchOver_lifted os started H enc)

end Go.Proofs.Ytndjoblgphalhaa
