/- The package pull, general: Next, what its paths share. -/
import Derived.Test.YtfnecdkfhackkaaPg3
set_option linter.unusedVariables false
set_option linter.unusedSimpArgs false
namespace Go.Proofs.Ytfnecdkfhackkaa
open Go.RowKit

theorem res_cell_tmp2g {P : Program} {fn : Func} {p u1 u2 : Tmp} {ty : TypeId} (h : fn.results = #[.cell p ty, .tmp u1, .tmp u2]) (tmps : Array Value) (w : World) (b off : Nat) (hp : tmps.getD p undef = .pointer (some ⟨b, off, none⟩)) (cs : List Value) (hA : Agg P ty cs.length)
    (hc : ∀ i u, cs[i]? = some u → w.cell? ⟨b, off + i, none⟩ = some u) : (results fn tmps).run P w = .ok (.tuple #[.agg cs.toArray, tmps.getD u1 undef, tmps.getD u2 undef]) w := by
  simp only [results, h]
  have hp' : tmps[p]?.getD undef = .pointer (some ⟨b, off, none⟩) := by rw [← hp]; simp
  simp [Sem.run_bind, hp', asAddr, run_load_whole hA hc]
section
variable {w w1 : World} {O : Nat → Prop}
/-- The puller's memory: its blocks are among O. -/
def PullAt (w : World) (px : Nat) (O : Nat → Prop) (x : PS) : Prop := ∃ pv, PxIs w px x pv ∧ O px ∧ match x.want with
  | none => pv = .pointer none
  | some (f, s, a, t) => ∃ wb, pv = .pointer (some ⟨wb, 0, none⟩) ∧ wb ≠ px ∧ O wb ∧ WbIs w wb f s a t
theorem PullAt.kept {P : Nat → Prop} {px : Nat} {x : PS} (h : PullAt w px O x) (hk : Kept P w w1) (hd : ∀ k, O k → ¬ P k) : PullAt w1 px O x := by
  obtain ⟨pv, h1, h2, h3⟩ := h
  refine ⟨pv, h1.kept hk (hd _ h2), h2, ?_⟩
  cases hw : x.want with
  | none => rw [hw] at h3; exact h3
  | some z =>
    obtain ⟨f, s, a, t⟩ := z
    rw [hw] at h3
    obtain ⟨wb, e1, e2, e3, e4⟩ := h3
    exact ⟨wb, e1, e2, e3, e4.kept hk (hd _ e3)⟩
theorem PullAt.mono {P : Nat → Prop} {px : Nat} {x : PS} (h : PullAt w px O x) (ho : ∀ k, O k → P k) : PullAt w px P x := by
  obtain ⟨pv, h1, h2, h3⟩ := h
  refine ⟨pv, h1, ho _ h2, ?_⟩
  cases hw : x.want with
  | none => rw [hw] at h3; exact h3
  | some z =>
    obtain ⟨f, s, a, t⟩ := z
    rw [hw] at h3
    obtain ⟨wb, e1, e2, e3, e4⟩ := h3
    exact ⟨wb, e1, e2, ho _ e3, e4⟩
def NextOut (w w' : World) (px : Nat) (O : Nat → Prop) (r : Ending) (y : PS) (id : Int × Int) (p : Int) (ok : Bool) : Prop :=
  r = .returned (.tuple #[.agg #[.int .u8 id.1, .int .u64 id.2], .int .i64 p, .bool ok]) ∧ PullAt w' px (fun k => O k ∨ New w w' k) y ∧ Kept O w w'
def Rc (w w1 : World) : Prop := w1.heap[w.heap.size]? = some (.cells #[.int .u8 0, .int .u64 0] 40 (0, 0))
theorem asked_worldg {px wb f : Nat} {s t T cn : Int} {a : Bool} {y : PS} (hk : Kept O w w1) (h1 : PxIs w1 px y (.pointer (some ⟨wb, 0, none⟩))) (h2 : WbIs w1 wb f s a t) (h3 : Rc w w1) (ho : O px) (hwb : wb < w.heap.size → O wb) (n1 : wb ≠ px) (n2 : px < w.heap.size) (n3 : wb ≠ w.heap.size) :
    Kept O w (((w1.setCell ⟨wb, 2, none⟩ (.bool true)).setCell ⟨wb, 3, none⟩ (.int .i64 T)).setCell ⟨px, 6, none⟩ (.int .u64 cn)).drew ∧
    PxIs (((w1.setCell ⟨wb, 2, none⟩ (.bool true)).setCell ⟨wb, 3, none⟩ (.int .i64 T)).setCell ⟨px, 6, none⟩ (.int .u64 cn)).drew px { y with count := cn } (.pointer (some ⟨wb, 0, none⟩)) ∧
    WbIs (((w1.setCell ⟨wb, 2, none⟩ (.bool true)).setCell ⟨wb, 3, none⟩ (.int .i64 T)).setCell ⟨px, 6, none⟩ (.int .u64 cn)).drew wb f s true T ∧
    Rc w (((w1.setCell ⟨wb, 2, none⟩ (.bool true)).setCell ⟨wb, 3, none⟩ (.int .i64 T)).setCell ⟨px, 6, none⟩ (.int .u64 cn)).drew := by
  have o : ∀ {W : World} {b j k : Nat} {v : Value} {r : Option Obj}, k ≠ b → W.heap[k]? = r → (W.setCell ⟨b, j, none⟩ v).heap[k]? = r := fun h e => (Below.heap_setCell _ _ _ _ h).trans e
  refine ⟨(((hk.setCell (p := ⟨wb, 2, none⟩) hwb _).setCell (p := ⟨wb, 3, none⟩) hwb _).setCell (p := ⟨px, 6, none⟩) (fun _ => ho) _).drew, ?_, ?_, ?_⟩
  · exact heap_setCell_same _ px 6 _ 92 _ (o (Ne.symm n1) (o (Ne.symm n1) h1))
  · exact o n1 (heap_setCell_same _ wb 3 _ 95 _ (heap_setCell_same w1 wb 2 _ 95 _ h2))
  · exact o (by omega) (o (Ne.symm n3) (o (Ne.symm n3) h3))
theorem new_rc {w1 w2 : World} {r : Nat} {a b : Value} (h : w1.heap[r]? = some (.cells #[.int .u8 0, .int .u64 0] 40 (0, 0))) (hw : w2 = w1.setRow r ((#[.int .u8 0, .int .u64 0] : Array Value).toList.take 0 ++ [a, b] ++ (#[.int .u8 0, .int .u64 0] : Array Value).toList.drop (0 + [a, b].length)).toArray) :
    w2.heap[r]? = some (.cells #[a, b] 40 (0, 0)) ∧ Kept (fun k => k = r) w1 w2 := by
  subst hw
  exact ⟨setRow_heap w1 r _ _ 40 _ h, (Kept.refl (fun k => k = r) w1).setRow (g := r) (fun _ => rfl) _⟩
end
end Go.Proofs.Ytfnecdkfhackkaa
