/- FetchPlays: whatever the input, the law returns true, and each argument reads behind the call as it read before. No condition. -/
import Derived.Test.YtndjoblgphalhaaT16
namespace Go.Proofs.Ytndjoblgphalhaa
open Go.ChangeShapes Go.WideShapes Go.ChangeAt Go.RowKit Go.Eng Go.Eng.Try

set_option maxRecDepth 100000 in
theorem fetchPlays_lifted (os : Os) (started : os.Started) (H : Type) (enc : TypeId × Value → H) :
    ReturnsInHanded {} Try.checked os 4 .any (Rows.fetchPlaysSpec.pre6 enc Try.prog Try.f4 Rows.fetchPlaysRow.domain false) (Rows.fetchPlaysSpec.post enc Try.prog Try.f4 false true false false) :=
  law_lifted (C := Try.checked) (ls := [(true, lFetch), (false, [.slice lAct])]) (tb := 4) Try.own started (by kernel_rfl) Try.func4
    (ChangeSpec.witness6 (enc := enc) (C := Try.checked) false ⟨#[], #[zFetch, .slice none 0 0], []⟩ 8 (by kernel_rfl) (by kernel_rfl) (by kernel_rfl) (by kernel_rfl))
    Try.laidOut (by decide +kernel) rfl (by kernel_rfl) (by kernel_rfl) (by kernel_rfl) (fun ds h => match ds, h with | [_, _], _ => ⟨rfl, rfl, rfl⟩)
    (fun vs h => by
      simp only [ArgsV, ArgV] at h
      obtain ⟨_, _, rfl, ⟨v1, rfl, h1⟩, _, _, rfl, h2, rfl⟩ := h
      obtain ⟨f, rfl⟩ := leaf_fetch h1
      simp only [LeafsV, LeafV] at h2
      obtain ⟨_, _, e, ⟨es, rfl, _, h2⟩, _⟩ := h2
      cases e
      obtain ⟨l, rfl⟩ := leaf_acts h2
      exact s4 f l _)

theorem fetchPlays_holds : Rows.FetchPlaysSaid :=
  OpenClaim.holds_of_wide 4 Try.f4 rfl rfl rfl rfl rfl rfl rfl ⟨rfl, rfl, rfl, rfl, rfl⟩ rfl rfl rfl rfl rfl (by kernel_rfl) Try.func4 (by kernel_rfl)
    (of_decide_eq_true (by kernel_rfl)) (by unfold Func.isWrapper; first | (rw [if_pos (by decide +kernel)]; kernel_rfl) | (rw [if_neg (by decide +kernel)]; exact ⟨rfl, rfl⟩))
    (fun os started H enc _ => fetchPlays_lifted os started H enc)

end Go.Proofs.Ytndjoblgphalhaa
