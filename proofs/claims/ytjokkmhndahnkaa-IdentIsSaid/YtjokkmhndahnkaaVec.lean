/- General words (this seat has no package vec). -/
import Derived.Test.YtjokkmhndahnkaaKinds
import Derived.Test.YtjokkmhndahnkaaProg
set_option linter.unusedVariables false
set_option linter.unusedSimpArgs false
namespace Go.Proofs.Ytjokkmhndahnkaa
open Go.RowKit

theorem mixed : Try.prog.follows .mixedOrders = true := by kernel_rfl
theorem ret_int {k : IntKind} {a b : Int} (h : a = b) : Ending.returned (.int k a) = .returned (.int k b) := by rw [h]
theorem take_snoc {α : Type} (xs : List α) (k : Nat) (x : α) (h : xs[k]? = some x) : xs.take (k + 1) = xs.take k ++ [x] := by
  rw [List.take_add_one, h]; rfl
theorem info_u64 : (Try.prog.info? 31).map (fun i => (i.zero, i.size, i.bytes)) = some (some (.int .u64 0), 1, 8) := by kernel_rfl

/-- One number more, behind those of a row. -/
theorem src_new {w : World} {e : TypeId} {c : Value} (h : c.oneCell' = true) : Src (w.alloc (.cells #[c] e)) (fun k => k = w.heap.size) 1 (.slice (some ⟨w.heap.size, 0, none⟩) 1 1) 1 [c] :=
  ⟨_, 1, rfl, Nat.le_refl _, by decide, rfl, fun u hu => by rw [List.mem_singleton.1 hu]; exact h, fun _ => ⟨w.heap.size, 0, rfl, rfl, fun j u hj => by
    cases j with
    | zero => have : c = u := by simpa using hj
              subst this; simp
    | succ j => simp at hj⟩⟩

theorem src_newN {w : World} {N : Nat} {e : TypeId} {c : Value} (hN : w.heap.size = N) (h : c.oneCell' = true) : Src (w.alloc (.cells #[c] e)) (fun k => k = N) 1 (.slice (some ⟨N, 0, none⟩) 1 1) 1 [c] := by
  subst hN
  exact src_new h

end Go.Proofs.Ytjokkmhndahnkaa
