/- The law on names. -/
import Derived.Test.YtgibncjbojocoaaT01Q
namespace Go.Proofs.Ytgibncjbojocoaa
open Go.Sx
set_option linter.unusedVariables false
set_option linter.unusedSimpArgs false
set_option maxRecDepth 100000

theorem name_q : nameW ⟨#[113]⟩ (ByteArray.size ⟨#[113]⟩) 0 0 = true := by decide +kernel

theorem names_spec (s : ByteArray) (hs : s.size ≤ 9223372036854775807) : Pure Try.prog 5 [vs s] (vb true) [] := by
  refine Proc.mk (cfg 11) tysOK [] Try.func5 rfl (by kernel_rfl) rfl rfl rfl ?_
  intro C x
  refine x.pure rfl trivial rfl (name_spec s hs) ⟨rfl, trivial⟩ ?_
  refine x.pure rfl trivial rfl (ref_name_spec s hs) ⟨rfl, trivial⟩ ?_
  refine x.pureG rfl trivial rfl (fun _ => name_spec ⟨#[113]⟩ (by decide)) rfl ⟨rfl, trivial⟩ ?_
  refine x.exit rfl trivial ?_
  refine ⟨.inr rfl, ?_, trivial, rfl⟩
  show _ = _
  rw [name_q, name_eq]
  simp
end Go.Proofs.Ytgibncjbojocoaa
