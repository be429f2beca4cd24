/- Small words on numbers of few bits. -/
import Derived.Test.YtblabchnpkofgaaDC
namespace Go.Proofs.Ytblabchnpkofgaa
open Go.RowKit Go.Sy
theorem wf_u8 {a : Int} (h : (Lit.int .u8 a).wf = true) : 0 ≤ a ∧ a ≤ 255 := by
  have e1 : IntKind.u8.min = 0 := rfl
  have e2 : IntKind.u8.max = 255 := rfl
  simp [Lit.wf, IntKind.wrap, e1, e2] at h
  omega
theorem wf_u16 {a : Int} (h : (Lit.int .u16 a).wf = true) : 0 ≤ a ∧ a ≤ 65535 := by
  have e1 : IntKind.u16.min = 0 := rfl
  have e2 : IntKind.u16.max = 65535 := rfl
  simp [Lit.wf, IntKind.wrap, e1, e2] at h
  omega
end Go.Proofs.Ytblabchnpkofgaa
