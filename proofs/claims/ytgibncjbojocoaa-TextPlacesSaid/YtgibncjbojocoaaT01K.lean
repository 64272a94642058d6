/- The law on places. -/
import Derived.Test.YtgibncjbojocoaaT01J
namespace Go.Proofs.Ytgibncjbojocoaa
open Go.Sx
set_option linter.unusedVariables false
set_option linter.unusedSimpArgs false
set_option maxRecDepth 100000

theorem place_q : placeV ⟨#[113]⟩ 0 = (1, 1) := by
  unfold placeV
  rw [if_neg (by simp), walkP_end (by simp)]

theorem places_spec (s : ByteArray) (e : Int) : Pure Try.prog 4 [vs s, vi e] (vb true) [] := by
  refine Proc.mk (cfg 46) tysOK [] Try.func4 rfl (by kernel_rfl) rfl rfl rfl ?_
  intro C x
  refine x.cond rfl trivial (fun h0 => ?_) (fun h0 => ?_)
  · refine x.exit rfl trivial ?_
    exact ⟨.inr rfl, rfl, trivial, rfl⟩
  have hs : s.size < 4611686018427387000 := by simp at h0; omega
  refine x.pure rfl trivial rfl (place_spec s e hs) ⟨rfl, rfl, trivial⟩ ?_
  refine x.pure rfl trivial rfl (ref_place_spec s e hs) ⟨rfl, rfl, trivial⟩ ?_
  refine x.pure rfl trivial rfl (place_spec ⟨#[113]⟩ 0 (by decide)) ⟨rfl, rfl, trivial⟩ ?_
  refine x.exit rfl trivial ?_
  refine ⟨.inr rfl, ?_, trivial, rfl⟩
  show _ = _
  rw [place_q, place_eq]
  simp
end Go.Proofs.Ytgibncjbojocoaa
