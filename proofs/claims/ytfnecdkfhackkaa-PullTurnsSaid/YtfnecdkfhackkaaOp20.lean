/- Acts of pull as arguments: what reads at their type, is of their kind. -/
import Derived.Test.YtfnecdkfhackkaaPg13
set_option linter.unusedVariables false
set_option linter.unusedSimpArgs false
namespace Go.Proofs.Ytfnecdkfhackkaa
open Go.ChangeShapes Go.WideShapes Go.ChangeAt Go.RowKit Go.Joins

theorem ownT : ownKnob Try.prog.godebug = none := by kernel_rfl
theorem laidT : laidOutB Try.prog = true := by kernel_rfl
set_option maxRecDepth 100000 in
theorem opens65 : Opens Try.prog 65 kAct := by
  intro H enc w held fuel cs x h
  obtain ⟨xs, n, rfl, _, hl, hlen, hf⟩ := DataW.trod_struct Try.underlying65 h
  have hc : cs.length = 5 := by rw [hl]; kernel_rfl
  match cs, hc, xs, hlen with
  | [a, b, c, d, e], _, [y0, y1, y2, y3, y4], _ =>
    have h0 := hf 0 _ rfl
    have h1 := hf 1 _ rfl
    have h2 := hf 2 _ rfl
    have h3 := hf 3 _ rfl
    have h4 := hf 4 _ rfl
    rw [show Try.prog.cellsOf _ = 1 by kernel_rfl] at h0 h1 h2 h3 h4
    obtain ⟨p0, e0, r0⟩ := opens_int Try.underlying3 H enc w held n _ _ h0
    obtain ⟨p1, e1, r1⟩ := opens_int Try.underlying3 H enc w held n _ _ h1
    obtain ⟨p2, e2, r2⟩ := opens_int Try.underlying2 H enc w held n _ _ h2
    obtain ⟨p3, v3, e3, r3⟩ := opens_slice (d := kI .u64) Try.underlying27 (by kernel_rfl) (by decide) (opens_int Try.underlying26) H enc w held n _ _ h3
    obtain ⟨p4, v4, e4, r4⟩ := opens_slice (d := kI .i64) Try.underlying42 (by kernel_rfl) (by decide) (opens_int Try.underlying3) H enc w held n _ _ h4
    simp at e0 e1 e2 e3 e4
    subst e0 e1 e2 e3 e4
    exact ⟨⟨p0, p1, p2, p3, p4⟩, _, _, rfl, r1, r3, r4⟩
theorem opens63 : Opens Try.prog 63 (kSl kAct) := opens_slice Try.underlying63 (by kernel_rfl) (by decide) opens65

end Go.Proofs.Ytfnecdkfhackkaa
