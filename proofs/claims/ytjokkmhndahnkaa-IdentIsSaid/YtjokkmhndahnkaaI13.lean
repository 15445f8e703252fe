/- The package ident, thirteenth part: the example of the stage: awake of unisonlaw03; IdentChain. -/
import Derived.Test.YtjokkmhndahnkaaI12
set_option linter.unusedVariables false
set_option linter.unusedSimpArgs false
namespace Go.Proofs.Ytjokkmhndahnkaa
open Go.RowKit

theorem src_alloc {w : World} {e : TypeId} (cs : List Value) (m size : Nat) (hl : cs.length = m * size) (hm : m ≤ maxLen) (h1 : ∀ u ∈ cs, u.oneCell' = true) :
    Src (w.alloc (.cells cs.toArray e)) (fun k => k = w.heap.size) size (.slice (some ⟨w.heap.size, 0, none⟩) m m) m cs :=
  ⟨_, m, rfl, Nat.le_refl _, hm, hl, h1, fun _ => ⟨w.heap.size, 0, rfl, rfl, fun j u hj => by
    rw [cell_of_row _ _ _ _ _ _ (heap_alloc_new _ _)]
    simpa using hj⟩⟩
theorem sl_awake (w : World) : Sl kID (w.alloc (.cells #[.int .u8 0, .int .u64 2, .int .u8 0, .int .u64 1, .int .u8 0, .int .u64 5] 33)) (fun k => k = w.heap.size) (.slice (some ⟨w.heap.size, 0, none⟩) 3 3) [(0, 2), (0, 1), (0, 5)] :=
  ⟨[.int .u8 0, .int .u64 2, .int .u8 0, .int .u64 1, .int .u8 0, .int .u64 5], src_alloc _ 3 2 rfl (by decide) (by intro u hu; simp at hu; rcases hu with rfl | rfl | rfl | rfl | rfl | rfl <;> rfl),
    ((reps_id (p := (0, 2)) (by rw [okID_iff]; decide)).append (reps_id (p := (0, 1)) (by rw [okID_iff]; decide))).append (reps_id (p := (0, 5)) (by rw [okID_iff]; decide))⟩
theorem sorted_awake : SortedOf [(0, 2), (0, 1), (0, 5)] [(0, 1), (0, 2), (0, 5)] := by
  refine ⟨?_, fun a => ?_⟩
  · unfold Asc
    simp [lessI]
  · simp only [List.mem_cons, List.not_mem_nil, or_false, may64_iff]
    constructor
    · rintro (rfl | rfl | rfl) <;> simp
    · rintro ⟨rfl | rfl | rfl, _⟩ <;> simp
theorem joined_awake : joinI [(0, 1), (0, 2), (0, 5)] = [(0, 1, 2), (0, 5, 1)] := by decide

set_option maxRecDepth 20000 in
theorem awake_any (w : World) : Calls Try.prog 8 #[] w fun e w' => e = .returned (.bool true) ∧ Kept No w w' := by
  have ka : Kept No w (w.alloc (.cells #[.int .u8 0, .int .u64 2, .int .u8 0, .int .u64 1, .int .u8 0, .int .u64 5] 33)) := (Kept.refl _ _).alloc _
  have hJ := join_op _ _ _ _ (sl_awake w) (fun k hk => by subst hk; simp) (by simp)
  have HK : Hid (Kept No w (w.alloc (.cells #[.int .u8 0, .int .u64 2, .int .u8 0, .int .u64 1, .int .u8 0, .int .u64 5] 33))) := ka
  clear ka
  have hq0 := fun W => eq40 (0, 1, 2) (0, 1, 2) W
  have hq1 := fun W => eq40 (0, 5, 1) (0, 5, 1) W
  simp only [decide_true] at hq0 hq1
  have hg := fun x y a b W => eqg40 .eql x y a b W
  go_enter Try.func8, Try.ntmps8
  go_wp2_with (first
    | (go_at_call 9; ((with_reducible refine hJ.mono ?_); rintro e w1 ⟨v, s, rfl, hs, ht, hf, hk⟩; rw [hs.unique sorted_awake, joined_awake] at ht; obtain ⟨A, c, rfl, hc1, hc2⟩ := ht.slice; obtain ⟨g, off, _, e, _, _⟩ := ht.get (j := 0) rfl; subst e; have t0 := (tw_runs ht (j := 0) rfl).2; have t1 := (tw_runs ht (j := 1) rfl).2; have z0 : w1.cell? ⟨g, off, none⟩ = some (.int .u8 0) := t0 0 _ rfl; have z1 : w1.cell? ⟨g, off + 1, none⟩ = some (.int .u64 1) := t0 1 _ rfl; have z2 : w1.cell? ⟨g, off + 2, none⟩ = some (.int .u64 2) := t0 2 _ rfl; have z3 : w1.cell? ⟨g, off + 3, none⟩ = some (.int .u8 0) := t1 0 _ rfl; have z4 : w1.cell? ⟨g, off + 3 + 1, none⟩ = some (.int .u64 5) := t1 1 _ rfl; have z5 : w1.cell? ⟨g, off + 3 + 2, none⟩ = some (.int .u64 1) := t1 2 _ rfl; have H1 : Hid (Kept No w w1) := HK.out.trans hk; clear hJ hs ht hf hk t0 t1 hc1 hc2)))
  go_ret
  exact ⟨rfl, H1.out⟩
end Go.Proofs.Ytjokkmhndahnkaa
