/- The package pull, fifth part: Next that asks nobody. -/
import Derived.Test.YtfnecdkfhackkaaPul4
set_option linter.unusedVariables false
set_option linter.unusedSimpArgs false
namespace Go.Proofs.Ytfnecdkfhackkaa
open Go.RowKit

theorem res_cell_tmp2 {P : Program} {fn : Func} {p u1 u2 : Tmp} {ty : TypeId} (h : fn.results = #[.cell p ty, .tmp u1, .tmp u2]) (tmps : Array Value) (w : World) (b off : Nat) (hp : tmps.getD p undef = .pointer (some ⟨b, off, none⟩)) (cs : List Value) (hA : Agg P ty cs.length)
    (hc : ∀ i u, cs[i]? = some u → w.cell? ⟨b, off + i, none⟩ = some u) : (results fn tmps).run P w = .ok (.tuple #[.agg cs.toArray, tmps.getD u1 undef, tmps.getD u2 undef]) w := by
  simp only [results, h]
  have hp' : tmps[p]?.getD undef = .pointer (some ⟨b, off, none⟩) := by rw [← hp]; simp
  simp [Sem.run_bind, hp', asAddr, run_load_whole hA hc]
theorem two_cells' {w : World} {b : Nat} {x y : Value} (h0 : w.cell? ⟨b, 0, none⟩ = some x) (h1 : w.cell? ⟨b, 1, none⟩ = some y) : ∀ i u, [x, y][i]? = some u → w.cell? ⟨b, 0 + i, none⟩ = some u := by
  intro i u hu
  match i with
  | 0 => have e : x = u := by simpa using hu
         subst e; exact h0
  | 1 => have e : y = u := by simpa using hu
         subst e; exact h1
  | i + 2 => simp at hu
set_option maxRecDepth 20000 in
theorem next_nilp (now : Int) (hv mp : Value) (w : World) : Calls Try.prog 39 #[.pointer none, .int .i64 now, hv, mp, .slice none 0 0] w fun e w' => e = .returned (.tuple #[.agg #[.int .u8 0, .int .u64 0], .int .i64 (-1), .bool false]) ∧ Kept No w w' := by
  go_enter Try.func39, Try.ntmps39
  go_wp2
  refine bodyPost_ret (res_cell_tmp2 (by rfl) _ _ w.heap.size 0 (by rfl) [.int .u8 0, .int .u64 0] agg40' (two_cells' (by simp) (by simp))) rfl ?_
  exact ⟨rfl, (Kept.refl _ _).alloc _⟩
theorem asked_nil (w : World) : Calls Try.prog 40 #[.pointer none] w fun e w' => e = .returned (.int .u64 0) ∧ w = w' := by
  go_enter Try.func40, Try.ntmps40
  go_wp2
  go_ret
  exact ⟨rfl, rfl⟩
theorem wanted_nil (w : World) : Calls Try.prog 42 #[.pointer none] w fun e w' => e = .returned (.tuple #[.agg #[.int .u8 0, .int .u64 0], .bool false]) ∧ Kept No w w' := by
  go_enter Try.func42, Try.ntmps42
  go_wp2
  refine bodyPost_ret (res_cell_tmp (by rfl) _ _ w.heap.size 0 (by rfl) [.int .u8 0, .int .u64 0] agg40' (two_cells' (by simp) (by simp))) rfl ?_
  exact ⟨rfl, (Kept.refl _ _).alloc _⟩

set_option maxRecDepth 20000 in
set_option maxHeartbeats 2000000 in
theorem next_none (px : Nat) (a now : Int) (hv mp : Value) (w : World) (HP : Hid (Puller0 w px a))
    (HC : Hid (∀ W, Kept No w W → Calls Try.prog 57 #[.pointer (some ⟨px, 0, none⟩), hv, mp, .slice none 0 0] W fun e w' => e = .returned (.tuple #[]) ∧ Kept No W w')) :
    Calls Try.prog 39 #[.pointer (some ⟨px, 0, none⟩), .int .i64 now, hv, mp, .slice none 0 0] w fun e w' => e = .returned (.tuple #[.agg #[.int .u8 0, .int .u64 0], .int .i64 (-1), .bool false]) ∧ Kept No w w' := by
  have hP := HP.out
  have p3 : w.cell? ⟨px, 3, none⟩ = some (.pointer none) := by rw [cell_of_row _ _ 3 _ _ _ hP]; rfl
  have hpl := lt_of_heap hP
  have HW : Hid (∀ W, Kept No (w.alloc (.cells #[.int .u8 0, .int .u64 0] 40)) W → Kept No w W ∧ W.cell? ⟨px, 3, none⟩ = some (.pointer none) ∧ W.cell? ⟨w.heap.size, 0, none⟩ = some (.int .u8 0) ∧ W.cell? ⟨w.heap.size, 1, none⟩ = some (.int .u64 0) ∧ W.frozen? ⟨w.heap.size, 0, none⟩ = false ∧ W.frozen? ⟨w.heap.size, 1, none⟩ = false) := by
    intro W hW
    have h := heap_alloc_new w (.cells #[.int .u8 0, .int .u64 0] 40)
    have k0 : Kept No w W := ((Kept.refl No w).alloc _).trans hW
    exact ⟨k0, k0.cell p3 id, hW.cell (by rw [cell_of_row _ _ 0 _ _ _ h]; rfl) id, hW.cell (by rw [cell_of_row _ _ 1 _ _ _ h]; rfl) id, (hW.frozen_eq (lt_of_heap h) id).trans (frozen_of_row _ _ 0 _ _ h), (hW.frozen_eq (lt_of_heap h) id).trans (frozen_of_row _ _ 1 _ _ h)⟩
  clear hP
  go_enter Try.func39, Try.ntmps39
  go_wp2_with (go_at_call 57; go_loud ((with_reducible refine (HC.out _ ((Kept.refl _ _).alloc _)).mono ?_); rintro e w1 ⟨rfl, hk1⟩; obtain ⟨k1, q3, x0, x1, y0, y1⟩ := HW.out w1 hk1; have HK1 : Hid (Kept No w w1 ∧ Kept No (w.alloc (.cells #[.int .u8 0, .int .u64 0] 40)) w1) := ⟨k1, hk1⟩; clear k1 hk1))
  all_goals
    refine wp_region_plan No (.pur 0 (.pur 1 (.pur 2 (.pur 3 (.pur 4 (.pur 5 (.rd 6 (.pur 7 (.pur 8 (.pur 9 (.pur 10 (.pur 11 (.pur 14 (.pur 15 (.pur 16 (.rd 12 (.pur 13 (.rd 17 (.pur 18 (.pur 19 (.pur 20 .fin))))))))))))))))))))) [] mixed (by kernel_rfl) ?_
    repeat ((first | refine pl_pur (by simp only [List.getD_cons_succ, List.getD_cons_zero]; rfl) _ (by rfl) (fun W => by go_simp; with_reducible rfl) ?_ | refine pl_rd (by simp only [List.getD_cons_succ, List.getD_cons_zero]; rfl) _ (by rfl) (fun W hW => by have hc := hW.cell ((show w1.drew.cell? ⟨px, 3, none⟩ = some (.pointer none) from q3)) id; clear hW; go_simp; with_reducible rfl) ?_ | refine pl_skip (by simp only [List.getD_cons_succ, List.getD_cons_zero]; rfl) (by rfl) ?_ | refine pl_skip_rd (by simp only [List.getD_cons_succ, List.getD_cons_zero]; rfl) (by rfl) ?_ | refine pl_skip_grow (by simp only [List.getD_cons_succ, List.getD_cons_zero]; rfl) (by rfl) ?_ | refine pl_skip_act (by simp only [List.getD_cons_succ, List.getD_cons_zero]; rfl) (by rfl) ?_); simp only [Act.put, List.setIfInBounds_toArray, List.set_cons_zero, List.set_cons_succ])
    refine pl_fin ?_
    go_wp2
    refine bodyPost_ret (res_cell_tmp2 (by rfl) _ _ w.heap.size 0 (by rfl) [.int .u8 0, .int .u64 0] agg40' (two_cells' (by rw [World.cell?_drew, World.cell?_setCell_other _ _ _ _ (by simp)]; exact World.cell?_setCell_same _ _ _ x0) (by rw [World.cell?_drew]; exact World.cell?_setCell_same _ _ _ (by rw [World.cell?_setCell_other _ _ _ _ (by simp)]; exact x1)))) rfl ?_
    exact ⟨rfl, ((HK1.out.1.setCell (p := ⟨w.heap.size, 0, none⟩) (fun h => absurd h (Nat.lt_irrefl _)) _).setCell (p := ⟨w.heap.size, 1, none⟩) (fun h => absurd h (Nat.lt_irrefl _)) _).drew⟩
end Go.Proofs.Ytfnecdkfhackkaa
