/- FetchAsked: whatever the input, the law returns true, and each argument reads behind the call as it read before. No condition. -/
import Derived.Test.YtndjoblgphalhaaT16
namespace Go.Proofs.Ytndjoblgphalhaa
open Go.ChangeShapes Go.WideShapes Go.ChangeAt Go.RowKit Go.Eng Go.Eng.Try

set_option maxRecDepth 100000 in
theorem fetchAsked_lifted (os : Os) (started : os.Started) (H : Type) (enc : TypeId × Value → H) :
    ReturnsInHanded {} Try.checked os 6 .any (Rows.fetchAskedSpec.pre6 enc Try.prog Try.f6 Rows.fetchAskedRow.domain false) (Rows.fetchAskedSpec.post enc Try.prog Try.f6 false true false false) :=
  law_lifted (C := Try.checked) (ls := [(true, lFetch), (true, lReply)]) (tb := 4) Try.own started (by kernel_rfl) Try.func6
    (ChangeSpec.witness6 (enc := enc) (C := Try.checked) false ⟨#[], #[zFetch, .agg zReply], []⟩ 8 (by kernel_rfl) (by kernel_rfl) (by kernel_rfl) (by kernel_rfl))
    Try.laidOut (by decide +kernel) rfl (by kernel_rfl) (by kernel_rfl) (by kernel_rfl) (fun ds h => match ds, h with | [_, _], _ => ⟨rfl, rfl, rfl⟩)
    (fun vs h => by
      simp only [ArgsV, ArgV] at h
      obtain ⟨_, _, rfl, ⟨v1, rfl, h1⟩, _, _, rfl, ⟨v2, rfl, h2⟩, rfl⟩ := h
      obtain ⟨f, rfl⟩ := leaf_fetch h1
      obtain ⟨r, rfl⟩ := leaf_reply h2
      exact (s6 f r _).mono fun _ _ h => h.1)

theorem fetchAsked_holds : Rows.FetchAskedSaid :=
  OpenClaim.holds_of_wide 6 Try.f6 rfl rfl rfl rfl rfl rfl rfl ⟨rfl, rfl, rfl, rfl, rfl⟩ rfl rfl rfl rfl rfl (by kernel_rfl) Try.func6 (by kernel_rfl)
    (of_decide_eq_true (by kernel_rfl)) (by unfold Func.isWrapper; first | (rw [if_pos (by decide +kernel)]; kernel_rfl) | (rw [if_neg (by decide +kernel)]; exact ⟨rfl, rfl⟩))
    (fun os started H enc _ => fetchAsked_lifted os started H enc)

end Go.Proofs.Ytndjoblgphalhaa
