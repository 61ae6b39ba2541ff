/- FetchGoes: whatever the input, the law returns true, and each argument reads behind the call as it read before. No condition. -/
import Derived.Test.YtndjoblgphalhaaT16
namespace Go.Proofs.Ytndjoblgphalhaa
open Go.ChangeShapes Go.WideShapes Go.ChangeAt Go.RowKit Go.Eng Go.Eng.Try

set_option maxRecDepth 100000 in
theorem fetchGoes_lifted (os : Os) (started : os.Started) (H : Type) (enc : TypeId × Value → H) :
    ReturnsInHanded {} Try.checked os 5 .any (Rows.fetchGoesSpec.pre6 enc Try.prog Try.f5 Rows.fetchGoesRow.domain false) (Rows.fetchGoesSpec.post enc Try.prog Try.f5 false true false false) :=
  law_lifted (C := Try.checked) (ls := [(true, lFetch), (true, lReply), (false, [.slice [.int .i64]])]) (tb := 4) Try.own started (by kernel_rfl) Try.func5
    (ChangeSpec.witness6 (enc := enc) (C := Try.checked) false ⟨#[], #[zFetch, .agg zReply, .slice none 0 0], []⟩ 8 (by kernel_rfl) (by kernel_rfl) (by kernel_rfl) (by kernel_rfl))
    Try.laidOut (by decide +kernel) rfl (by kernel_rfl) (by kernel_rfl) (by kernel_rfl) (fun ds h => match ds, h with | [_, _, _], _ => ⟨rfl, rfl, rfl⟩)
    (fun vs h => by
      simp only [ArgsV, ArgV] at h
      obtain ⟨_, _, rfl, ⟨v1, rfl, h1⟩, _, _, rfl, ⟨v2, rfl, h2⟩, _, _, rfl, h3, rfl⟩ := h
      obtain ⟨f, rfl⟩ := leaf_fetch h1
      obtain ⟨r, rfl⟩ := leaf_reply h2
      simp only [LeafsV] at h3
      obtain ⟨_, _, e, h3, _⟩ := h3
      unfold LeafV at h3
      obtain ⟨es, rfl, _, h3⟩ := h3
      cases e
      obtain ⟨l, rfl⟩ := leaf_ints h3
      exact s5 f r l _)

theorem fetchGoes_holds : Rows.FetchGoesSaid :=
  OpenClaim.holds_of_wide 5 Try.f5 rfl rfl rfl rfl rfl rfl rfl ⟨rfl, rfl, rfl, rfl, rfl⟩ rfl rfl rfl rfl rfl (by kernel_rfl) Try.func5 (by kernel_rfl)
    (of_decide_eq_true (by kernel_rfl)) (by unfold Func.isWrapper; first | (rw [if_pos (by decide +kernel)]; kernel_rfl) | (rw [if_neg (by decide +kernel)]; exact ⟨rfl, rfl⟩))
    (fun os started H enc _ => fetchGoes_lifted os started H enc)

end Go.Proofs.Ytndjoblgphalhaa
