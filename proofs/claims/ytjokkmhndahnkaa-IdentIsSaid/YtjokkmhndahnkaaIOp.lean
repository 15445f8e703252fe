/- Ids and runs as arguments: what reads at their types, is of their kinds. -/
import Derived.Test.YtjokkmhndahnkaaI13
import Derived.Test.YtjokkmhndahnkaaOpen
set_option linter.unusedVariables false
set_option linter.unusedSimpArgs false
namespace Go.Proofs.Ytjokkmhndahnkaa
open Go.ChangeShapes Go.WideShapes Go.ChangeAt Go.RowKit Go.Joins

theorem ownT : ownKnob Try.prog.godebug = none := by kernel_rfl
theorem laidT : laidOutB Try.prog = true := by kernel_rfl
set_option maxRecDepth 100000 in
theorem opens33 : Opens Try.prog 33 kID := by
  intro H enc w held fuel cs x h
  obtain ⟨xs, n, rfl, _, hl, hlen, hf⟩ := DataW.trod_struct Try.underlying33 h
  have hc : cs.length = 2 := by rw [hl]; kernel_rfl
  match cs, hc, xs, hlen with
  | [a, b], _, [y0, y1], _ =>
    have h0 := hf 0 _ rfl
    have h1 := hf 1 _ rfl
    rw [show Try.prog.cellsOf _ = 1 by kernel_rfl] at h0 h1
    obtain ⟨p0, e0, r0⟩ := opens_int Try.underlying5 H enc w held n _ _ h0
    obtain ⟨p1, e1, r1⟩ := opens_int Try.underlying31 H enc w held n _ _ h1
    simp at e0 e1
    subst e0 e1
    exact ⟨(p0, p1), rfl, r0, r1⟩
set_option maxRecDepth 100000 in
theorem opens40 : Opens Try.prog 40 kRun := by
  intro H enc w held fuel cs x h
  obtain ⟨xs, n, rfl, _, hl, hlen, hf⟩ := DataW.trod_struct Try.underlying40 h
  have hc : cs.length = 3 := by rw [hl]; kernel_rfl
  match cs, hc, xs, hlen with
  | [a, b, c], _, [y0, y1, y2], _ =>
    have h0 := hf 0 _ rfl
    have h1 := hf 1 _ rfl
    have h2 := hf 2 _ rfl
    rw [show Try.prog.cellsOf _ = 1 by kernel_rfl] at h0 h1 h2
    obtain ⟨p0, e0, r0⟩ := opens_int Try.underlying5 H enc w held n _ _ h0
    obtain ⟨p1, e1, r1⟩ := opens_int Try.underlying31 H enc w held n _ _ h1
    obtain ⟨p2, e2, r2⟩ := opens_int Try.underlying31 H enc w held n _ _ h2
    simp at e0 e1 e2
    subst e0 e1 e2
    exact ⟨(p0, p1, p2), rfl, r0, r1, r2⟩
theorem opens22 : Opens Try.prog 22 (kSl kID) := opens_slice Try.underlying22 (by kernel_rfl) (by decide) opens33
theorem opens24 : Opens Try.prog 24 (kSl kRun) := opens_slice Try.underlying24 (by kernel_rfl) (by decide) opens40
theorem cells33 : Try.prog.cellsOf 33 = 2 := by kernel_rfl
theorem cells40 : Try.prog.cellsOf 40 = 3 := by kernel_rfl
end Go.Proofs.Ytjokkmhndahnkaa
