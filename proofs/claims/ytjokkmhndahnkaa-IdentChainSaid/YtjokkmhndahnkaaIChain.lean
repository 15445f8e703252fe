/- IdentChain: of two ids that aren't the same one stands ahead; who stands ahead of one that stands ahead of a third one stands ahead of that: the walk of the law. -/
import Derived.Test.YtjokkmhndahnkaaI13
set_option linter.unusedVariables false
set_option linter.unusedSimpArgs false
namespace Go.Proofs.Ytjokkmhndahnkaa
open Go.RowKit

def IDs3 (w : World) (N : Nat) (a b c : PID) : Prop := (w.cell? ⟨N, 0, none⟩ = some (.int .u8 a.1) ∧ w.cell? ⟨N, 1, none⟩ = some (.int .u64 a.2)) ∧ (w.cell? ⟨N + 1, 0, none⟩ = some (.int .u8 b.1) ∧ w.cell? ⟨N + 1, 1, none⟩ = some (.int .u64 b.2)) ∧ (w.cell? ⟨N + 1 + 1, 0, none⟩ = some (.int .u8 c.1) ∧ w.cell? ⟨N + 1 + 1, 1, none⟩ = some (.int .u64 c.2))
theorem IDs3.new {w w' : World} {N : Nat} {a b c : PID} (h : IDs3 w N a b c) (hk : Kept No w w') : IDs3 w' N a b c :=
  ⟨⟨hk.cell h.1.1 id, hk.cell h.1.2 id⟩, ⟨hk.cell h.2.1.1 id, hk.cell h.2.1.2 id⟩, ⟨hk.cell h.2.2.1 id, hk.cell h.2.2.2 id⟩⟩

set_option maxRecDepth 20000 in
set_option maxHeartbeats 2000000 in
theorem identChain_any (a b c : PID) (w : World) : Calls Try.prog 4 #[.agg #[.int .u8 a.1, .int .u64 a.2], .agg #[.int .u8 b.1, .int .u64 b.2], .agg #[.int .u8 c.1, .int .u64 c.2]] w fun e w' => e = .returned (.bool true) ∧ Kept No w w' := by
  obtain ⟨W, hW⟩ : ∃ W, W = (((w.alloc (.cells #[.int .u8 a.1, .int .u64 a.2] 33)).alloc (.cells #[.int .u8 b.1, .int .u64 b.2] 33)).alloc (.cells #[.int .u8 c.1, .int .u64 c.2] 33)).drew := ⟨_, rfl⟩
  have u0 := heap_alloc_new w (.cells #[.int .u8 a.1, .int .u64 a.2] 33)
  have u1 := heap_alloc_new (w.alloc (.cells #[.int .u8 a.1, .int .u64 a.2] 33)) (.cells #[.int .u8 b.1, .int .u64 b.2] 33)
  have u2 := heap_alloc_new ((w.alloc (.cells #[.int .u8 a.1, .int .u64 a.2] 33)).alloc (.cells #[.int .u8 b.1, .int .u64 b.2] 33)) (.cells #[.int .u8 c.1, .int .u64 c.2] 33)
  simp only [World.size_alloc] at u1 u2
  have k1 : Kept No (w.alloc (.cells #[.int .u8 a.1, .int .u64 a.2] 33)) W := by rw [hW]; exact (((Kept.refl _ _).alloc _).alloc _).drew
  have k2 : Kept No ((w.alloc (.cells #[.int .u8 a.1, .int .u64 a.2] 33)).alloc (.cells #[.int .u8 b.1, .int .u64 b.2] 33)) W := by rw [hW]; exact ((Kept.refl _ _).alloc _).drew
  have k3 : Kept No (((w.alloc (.cells #[.int .u8 a.1, .int .u64 a.2] 33)).alloc (.cells #[.int .u8 b.1, .int .u64 b.2] 33)).alloc (.cells #[.int .u8 c.1, .int .u64 c.2] 33)) W := by rw [hW]; exact (Kept.refl _ _).drew
  have c0 := k1.cell (p := ⟨w.heap.size, 0, none⟩) ((cell_of_row _ _ _ _ _ _ u0).trans rfl) id
  have c1 := k1.cell (p := ⟨w.heap.size, 1, none⟩) ((cell_of_row _ _ _ _ _ _ u0).trans rfl) id
  have c2 := k2.cell (p := ⟨w.heap.size + 1, 0, none⟩) ((cell_of_row _ _ _ _ _ _ u1).trans rfl) id
  have c3 := k2.cell (p := ⟨w.heap.size + 1, 1, none⟩) ((cell_of_row _ _ _ _ _ _ u1).trans rfl) id
  have c4 := k3.cell (p := ⟨w.heap.size + 1 + 1, 0, none⟩) ((cell_of_row _ _ _ _ _ _ u2).trans rfl) id
  have c5 := k3.cell (p := ⟨w.heap.size + 1 + 1, 1, none⟩) ((cell_of_row _ _ _ _ _ _ u2).trans rfl) id
  clear u0 u1 u2 k1 k2 k3
  have hI : IDs3 W w.heap.size a b c := ⟨⟨c0, c1⟩, ⟨c2, c3⟩, ⟨c4, c5⟩⟩
  clear c0 c1 c2 c3 c4 c5
  have k0 : Kept No w W := by rw [hW]; exact ((((Kept.refl _ _).alloc _).alloc _).alloc _).drew
  have HW : Hid (W = (((w.alloc (.cells #[.int .u8 a.1, .int .u64 a.2] 33)).alloc (.cells #[.int .u8 b.1, .int .u64 b.2] 33)).alloc (.cells #[.int .u8 c.1, .int .u64 c.2] 33)).drew) := hW
  have HI : Hid (IDs3 W w.heap.size a b c ∧ Kept No w W) := ⟨hI, k0⟩
  clear hW hI k0
  have hab := fun W => less_op a.1 a.2 b.1 b.2 W
  have hba := fun W => less_op b.1 b.2 a.1 a.2 W
  have hbc := fun W => less_op b.1 b.2 c.1 c.2 W
  have hac := fun W => less_op a.1 a.2 c.1 c.2 W
  have haa := fun W => less_op a.1 a.2 a.1 a.2 W
  rw [show lessI (a.1, a.2) (a.1, a.2) = false from lessI_irr _] at haa
  have haw := fun W => awake_any W
  obtain ⟨l1, h1⟩ : ∃ l, l = lessI (a.1, a.2) (b.1, b.2) := ⟨_, rfl⟩
  obtain ⟨l2, h2⟩ : ∃ l, l = lessI (b.1, b.2) (a.1, a.2) := ⟨_, rfl⟩
  obtain ⟨l3, h3⟩ : ∃ l, l = lessI (b.1, b.2) (c.1, c.2) := ⟨_, rfl⟩
  obtain ⟨l4, h4⟩ : ∃ l, l = lessI (a.1, a.2) (c.1, c.2) := ⟨_, rfl⟩
  rw [← h1] at hab
  rw [← h2] at hba
  rw [← h3] at hbc
  rw [← h4] at hac
  have hcase : (l1 = false ∧ l2 = false ∧ true = decide (a = b)) ∨ (l1 = false ∧ l2 = true) ∨ (l1 = true ∧ l2 = false ∧ l3 = false) ∨ (l1 = true ∧ l2 = false ∧ l3 = true ∧ l4 = true) := by
    cases l1
    · cases l2
      · refine .inl ⟨rfl, rfl, ?_⟩
        have e : a = b := lessI_total h1.symm h2.symm
        simp [e]
      · exact .inr (.inl ⟨rfl, rfl⟩)
    · have e2 : l2 = false := by rw [h2]; exact lessI_asymm h1.symm
      cases l3
      · exact .inr (.inr (.inl ⟨rfl, e2, rfl⟩))
      · exact .inr (.inr (.inr ⟨rfl, e2, rfl, by rw [h4]; exact lessI_trans h1.symm h3.symm⟩))
  clear h1 h2 h3 h4
  rcases hcase with ⟨rfl, rfl, he0⟩ | ⟨rfl, rfl⟩ | ⟨rfl, rfl, rfl⟩ | ⟨rfl, rfl, rfl, rfl⟩
  · have he : Hid (true = decide (a = b)) := he0
    clear he0
    go_enter Try.func4, Try.ntmps4
    go_wp2
    refine wp_region_plan No (.rd 0 (.rd 1 (.rd 3 (.rd 4 (.grow 2 (.grow 5 (.pur 6 (.pur 7 (.rd 8 (.rd 9 (.pur 10 (.pur 11 (.pur 12 (.rd 13 (.rd 14 (.grow 15 (.pur 16 .fin))))))))))))))))) [] mixed (by kernel_rfl) ?_
    rw [← HW.out]
    refine pl_loadw (by simp only [List.getD_cons_succ, List.getD_cons_zero]; rfl) (by rfl) (.tmp 3) 33 (by rfl) (w.heap.size) 0 (by rfl) [.int .u8 a.1, .int .u64 a.2] agg33 (two_cells HI.out.1.1.1 HI.out.1.1.2) (fun h => h) ?_
    simp only [Act.put, List.setIfInBounds_toArray, List.set_cons_zero, List.set_cons_succ]
    refine pl_loadw (by simp only [List.getD_cons_succ, List.getD_cons_zero]; rfl) (by rfl) (.tmp 4) 33 (by rfl) (w.heap.size + 1) 0 (by rfl) [.int .u8 b.1, .int .u64 b.2] agg33 (two_cells HI.out.1.2.1.1 HI.out.1.2.1.2) (fun h => h) ?_
    simp only [Act.put, List.setIfInBounds_toArray, List.set_cons_zero, List.set_cons_succ]
    refine pl_loadw (by simp only [List.getD_cons_succ, List.getD_cons_zero]; rfl) (by rfl) (.tmp 4) 33 (by rfl) (w.heap.size + 1) 0 (by rfl) [.int .u8 b.1, .int .u64 b.2] agg33 (two_cells HI.out.1.2.1.1 HI.out.1.2.1.2) (fun h => h) ?_
    simp only [Act.put, List.setIfInBounds_toArray, List.set_cons_zero, List.set_cons_succ]
    refine pl_loadw (by simp only [List.getD_cons_succ, List.getD_cons_zero]; rfl) (by rfl) (.tmp 3) 33 (by rfl) (w.heap.size) 0 (by rfl) [.int .u8 a.1, .int .u64 a.2] agg33 (two_cells HI.out.1.1.1 HI.out.1.1.2) (fun h => h) ?_
    simp only [Act.put, List.setIfInBounds_toArray, List.set_cons_zero, List.set_cons_succ]
    refine pl_grow (by simp only [List.getD_cons_succ, List.getD_cons_zero]; rfl) ?_
    go_wp2_with (go_at_call 14; ((with_reducible refine (hab _).mono ?_); rintro e w1 ⟨rfl, hk1⟩))
    refine GPost.mk hk1 ?_
    refine pl_grow (by simp only [List.getD_cons_succ, List.getD_cons_zero]; rfl) ?_
    go_wp2_with (go_at_call 14; ((with_reducible refine (hba _).mono ?_); rintro e w2 ⟨rfl, hk2⟩))
    refine GPost.mk hk2 ?_
    have I2 : Hid (IDs3 w2 w.heap.size a b c ∧ Kept No w w2) := ⟨HI.out.1.new (hk1.trans hk2), (HI.out.2.trans hk1).trans hk2⟩
    clear hk1 hk2
    repeat ((first | refine pl_pur (by simp only [List.getD_cons_succ, List.getD_cons_zero]; rfl) _ (by rfl) (fun W => by go_simp; with_reducible rfl) ?_ | refine pl_rd (by simp only [List.getD_cons_succ, List.getD_cons_zero]; rfl) _ (by rfl) (fun W hW => by have hc := kcell hW; clear hW; go_simp; with_reducible rfl) ?_); simp only [Act.put, List.setIfInBounds_toArray, List.set_cons_zero, List.set_cons_succ])
    refine pl_loadw (by simp only [List.getD_cons_succ, List.getD_cons_zero]; rfl) (by rfl) (.tmp 3) 33 (by rfl) (w.heap.size) 0 (by rfl) [.int .u8 a.1, .int .u64 a.2] agg33 (two_cells I2.out.1.1.1 I2.out.1.1.2) (fun h => h) ?_
    simp only [Act.put, List.setIfInBounds_toArray, List.set_cons_zero, List.set_cons_succ]
    refine pl_loadw (by simp only [List.getD_cons_succ, List.getD_cons_zero]; rfl) (by rfl) (.tmp 4) 33 (by rfl) (w.heap.size + 1) 0 (by rfl) [.int .u8 b.1, .int .u64 b.2] agg33 (two_cells I2.out.1.2.1.1 I2.out.1.2.1.2) (fun h => h) ?_
    simp only [Act.put, List.setIfInBounds_toArray, List.set_cons_zero, List.set_cons_succ]
    refine pl_pur (by simp only [List.getD_cons_succ, List.getD_cons_zero]; rfl) _ (by rfl) (exec_neq33 (p := a) (q := b) he.out (by rfl) (by rfl) (by rfl)) ?_
    simp only [Act.put, List.setIfInBounds_toArray, List.set_cons_zero, List.set_cons_succ]
    repeat ((first | refine pl_pur (by simp only [List.getD_cons_succ, List.getD_cons_zero]; rfl) _ (by rfl) (fun W => by go_simp; with_reducible rfl) ?_ | refine pl_rd (by simp only [List.getD_cons_succ, List.getD_cons_zero]; rfl) _ (by rfl) (fun W hW => by have hc := kcell hW; clear hW; go_simp; with_reducible rfl) ?_); simp only [Act.put, List.setIfInBounds_toArray, List.set_cons_zero, List.set_cons_succ])
    refine pl_loadw (by simp only [List.getD_cons_succ, List.getD_cons_zero]; rfl) (by rfl) (.tmp 3) 33 (by rfl) (w.heap.size) 0 (by rfl) [.int .u8 a.1, .int .u64 a.2] agg33 (two_cells I2.out.1.1.1 I2.out.1.1.2) (fun h => h) ?_
    simp only [Act.put, List.setIfInBounds_toArray, List.set_cons_zero, List.set_cons_succ]
    refine pl_loadw (by simp only [List.getD_cons_succ, List.getD_cons_zero]; rfl) (by rfl) (.tmp 3) 33 (by rfl) (w.heap.size) 0 (by rfl) [.int .u8 a.1, .int .u64 a.2] agg33 (two_cells I2.out.1.1.1 I2.out.1.1.2) (fun h => h) ?_
    simp only [Act.put, List.setIfInBounds_toArray, List.set_cons_zero, List.set_cons_succ]
    refine pl_grow (by simp only [List.getD_cons_succ, List.getD_cons_zero]; rfl) ?_
    go_wp2_with (go_at_call 14; ((with_reducible refine (haa _).mono ?_); rintro e w3 ⟨rfl, hk3⟩))
    refine GPost.mk hk3 ?_
    repeat ((first | refine pl_pur (by simp only [List.getD_cons_succ, List.getD_cons_zero]; rfl) _ (by rfl) (fun W => by go_simp; with_reducible rfl) ?_ | refine pl_rd (by simp only [List.getD_cons_succ, List.getD_cons_zero]; rfl) _ (by rfl) (fun W hW => by have hc := kcell hW; clear hW; go_simp; with_reducible rfl) ?_); simp only [Act.put, List.setIfInBounds_toArray, List.set_cons_zero, List.set_cons_succ])
    refine pl_fin ?_
    have I3 : Hid (IDs3 w3 w.heap.size a b c ∧ Kept No w w3) := ⟨I2.out.1.new hk3, I2.out.2.trans hk3⟩
    clear hk3 I2 HI HW
    obtain ⟨⟨z0, z1⟩, ⟨z2, z3⟩, ⟨z4, z5⟩⟩ := I3.out.1
    go_wp2_with (first
      | (go_at_call 8; ((with_reducible refine (haw _).mono ?_); rintro e w9 ⟨rfl, hk9⟩; have I9 : Hid (Kept No w w9) := I4.out.2.trans hk9))
      | (go_at_call 14; first | ((with_reducible refine (hab _).mono ?_); rintro e w4 ⟨rfl, hk4⟩; have I4 : Hid (IDs3 w4 w.heap.size a b c ∧ Kept No w w4) := ⟨I3.out.1.new hk4, I3.out.2.trans hk4⟩; clear z0 z1 z2 z3 z4 z5 hk4; obtain ⟨⟨z0, z1⟩, ⟨z2, z3⟩, ⟨z4, z5⟩⟩ := I4.out.1; clear hab)))
    go_ret
    exact ⟨rfl, I9.out⟩
  · go_enter Try.func4, Try.ntmps4
    go_wp2
    refine wp_region_plan No (.rd 0 (.rd 1 (.rd 3 (.rd 4 (.grow 2 (.grow 5 (.pur 6 (.pur 7 (.rd 8 (.rd 9 (.pur 10 (.pur 11 (.pur 12 (.rd 13 (.rd 14 (.grow 15 (.pur 16 .fin))))))))))))))))) [] mixed (by kernel_rfl) ?_
    rw [← HW.out]
    refine pl_loadw (by simp only [List.getD_cons_succ, List.getD_cons_zero]; rfl) (by rfl) (.tmp 3) 33 (by rfl) (w.heap.size) 0 (by rfl) [.int .u8 a.1, .int .u64 a.2] agg33 (two_cells HI.out.1.1.1 HI.out.1.1.2) (fun h => h) ?_
    simp only [Act.put, List.setIfInBounds_toArray, List.set_cons_zero, List.set_cons_succ]
    refine pl_loadw (by simp only [List.getD_cons_succ, List.getD_cons_zero]; rfl) (by rfl) (.tmp 4) 33 (by rfl) (w.heap.size + 1) 0 (by rfl) [.int .u8 b.1, .int .u64 b.2] agg33 (two_cells HI.out.1.2.1.1 HI.out.1.2.1.2) (fun h => h) ?_
    simp only [Act.put, List.setIfInBounds_toArray, List.set_cons_zero, List.set_cons_succ]
    refine pl_loadw (by simp only [List.getD_cons_succ, List.getD_cons_zero]; rfl) (by rfl) (.tmp 4) 33 (by rfl) (w.heap.size + 1) 0 (by rfl) [.int .u8 b.1, .int .u64 b.2] agg33 (two_cells HI.out.1.2.1.1 HI.out.1.2.1.2) (fun h => h) ?_
    simp only [Act.put, List.setIfInBounds_toArray, List.set_cons_zero, List.set_cons_succ]
    refine pl_loadw (by simp only [List.getD_cons_succ, List.getD_cons_zero]; rfl) (by rfl) (.tmp 3) 33 (by rfl) (w.heap.size) 0 (by rfl) [.int .u8 a.1, .int .u64 a.2] agg33 (two_cells HI.out.1.1.1 HI.out.1.1.2) (fun h => h) ?_
    simp only [Act.put, List.setIfInBounds_toArray, List.set_cons_zero, List.set_cons_succ]
    refine pl_grow (by simp only [List.getD_cons_succ, List.getD_cons_zero]; rfl) ?_
    go_wp2_with (go_at_call 14; ((with_reducible refine (hab _).mono ?_); rintro e w1 ⟨rfl, hk1⟩))
    refine GPost.mk hk1 ?_
    refine pl_grow (by simp only [List.getD_cons_succ, List.getD_cons_zero]; rfl) ?_
    go_wp2_with (go_at_call 14; ((with_reducible refine (hba _).mono ?_); rintro e w2 ⟨rfl, hk2⟩))
    refine GPost.mk hk2 ?_
    have I2 : Hid (IDs3 w2 w.heap.size a b c ∧ Kept No w w2) := ⟨HI.out.1.new (hk1.trans hk2), (HI.out.2.trans hk1).trans hk2⟩
    clear hk1 hk2
    repeat ((first | refine pl_pur (by simp only [List.getD_cons_succ, List.getD_cons_zero]; rfl) _ (by rfl) (fun W => by go_simp; with_reducible rfl) ?_ | refine pl_rd (by simp only [List.getD_cons_succ, List.getD_cons_zero]; rfl) _ (by rfl) (fun W hW => by have hc := kcell hW; clear hW; go_simp; with_reducible rfl) ?_); simp only [Act.put, List.setIfInBounds_toArray, List.set_cons_zero, List.set_cons_succ])
    repeat ((first | refine pl_pur (by simp only [List.getD_cons_succ, List.getD_cons_zero]; rfl) _ (by rfl) (fun W => by go_simp; with_reducible rfl) ?_ | refine pl_rd (by simp only [List.getD_cons_succ, List.getD_cons_zero]; rfl) _ (by rfl) (fun W hW => by have hc := kcell hW; clear hW; go_simp; with_reducible rfl) ?_ | refine pl_skip (by simp only [List.getD_cons_succ, List.getD_cons_zero]; rfl) (by rfl) ?_ | refine pl_skip_rd (by simp only [List.getD_cons_succ, List.getD_cons_zero]; rfl) (by rfl) ?_ | refine pl_skip_grow (by simp only [List.getD_cons_succ, List.getD_cons_zero]; rfl) (by rfl) ?_ | refine pl_skip_act (by simp only [List.getD_cons_succ, List.getD_cons_zero]; rfl) (by rfl) ?_); simp only [Act.put, List.setIfInBounds_toArray, List.set_cons_zero, List.set_cons_succ])
    refine pl_loadw (by simp only [List.getD_cons_succ, List.getD_cons_zero]; rfl) (by rfl) (.tmp 3) 33 (by rfl) (w.heap.size) 0 (by rfl) [.int .u8 a.1, .int .u64 a.2] agg33 (two_cells I2.out.1.1.1 I2.out.1.1.2) (fun h => h) ?_
    simp only [Act.put, List.setIfInBounds_toArray, List.set_cons_zero, List.set_cons_succ]
    refine pl_loadw (by simp only [List.getD_cons_succ, List.getD_cons_zero]; rfl) (by rfl) (.tmp 3) 33 (by rfl) (w.heap.size) 0 (by rfl) [.int .u8 a.1, .int .u64 a.2] agg33 (two_cells I2.out.1.1.1 I2.out.1.1.2) (fun h => h) ?_
    simp only [Act.put, List.setIfInBounds_toArray, List.set_cons_zero, List.set_cons_succ]
    refine pl_grow (by simp only [List.getD_cons_succ, List.getD_cons_zero]; rfl) ?_
    go_wp2_with (go_at_call 14; ((with_reducible refine (haa _).mono ?_); rintro e w3 ⟨rfl, hk3⟩))
    refine GPost.mk hk3 ?_
    repeat ((first | refine pl_pur (by simp only [List.getD_cons_succ, List.getD_cons_zero]; rfl) _ (by rfl) (fun W => by go_simp; with_reducible rfl) ?_ | refine pl_rd (by simp only [List.getD_cons_succ, List.getD_cons_zero]; rfl) _ (by rfl) (fun W hW => by have hc := kcell hW; clear hW; go_simp; with_reducible rfl) ?_); simp only [Act.put, List.setIfInBounds_toArray, List.set_cons_zero, List.set_cons_succ])
    refine pl_fin ?_
    have I3 : Hid (IDs3 w3 w.heap.size a b c ∧ Kept No w w3) := ⟨I2.out.1.new hk3, I2.out.2.trans hk3⟩
    clear hk3 I2 HI HW
    obtain ⟨⟨z0, z1⟩, ⟨z2, z3⟩, ⟨z4, z5⟩⟩ := I3.out.1
    go_wp2_with (first
      | (go_at_call 8; ((with_reducible refine (haw _).mono ?_); rintro e w9 ⟨rfl, hk9⟩; have I9 : Hid (Kept No w w9) := I4.out.2.trans hk9))
      | (go_at_call 14; first | ((with_reducible refine (hab _).mono ?_); rintro e w4 ⟨rfl, hk4⟩; have I4 : Hid (IDs3 w4 w.heap.size a b c ∧ Kept No w w4) := ⟨I3.out.1.new hk4, I3.out.2.trans hk4⟩; clear z0 z1 z2 z3 z4 z5 hk4; obtain ⟨⟨z0, z1⟩, ⟨z2, z3⟩, ⟨z4, z5⟩⟩ := I4.out.1; clear hab)))
    go_ret
    exact ⟨rfl, I9.out⟩
  · go_enter Try.func4, Try.ntmps4
    go_wp2
    refine wp_region_plan No (.rd 0 (.rd 1 (.rd 3 (.rd 4 (.grow 2 (.grow 5 (.pur 6 (.pur 7 (.rd 8 (.rd 9 (.pur 10 (.pur 11 (.pur 12 (.rd 13 (.rd 14 (.grow 15 (.pur 16 .fin))))))))))))))))) [] mixed (by kernel_rfl) ?_
    rw [← HW.out]
    refine pl_loadw (by simp only [List.getD_cons_succ, List.getD_cons_zero]; rfl) (by rfl) (.tmp 3) 33 (by rfl) (w.heap.size) 0 (by rfl) [.int .u8 a.1, .int .u64 a.2] agg33 (two_cells HI.out.1.1.1 HI.out.1.1.2) (fun h => h) ?_
    simp only [Act.put, List.setIfInBounds_toArray, List.set_cons_zero, List.set_cons_succ]
    refine pl_loadw (by simp only [List.getD_cons_succ, List.getD_cons_zero]; rfl) (by rfl) (.tmp 4) 33 (by rfl) (w.heap.size + 1) 0 (by rfl) [.int .u8 b.1, .int .u64 b.2] agg33 (two_cells HI.out.1.2.1.1 HI.out.1.2.1.2) (fun h => h) ?_
    simp only [Act.put, List.setIfInBounds_toArray, List.set_cons_zero, List.set_cons_succ]
    refine pl_loadw (by simp only [List.getD_cons_succ, List.getD_cons_zero]; rfl) (by rfl) (.tmp 4) 33 (by rfl) (w.heap.size + 1) 0 (by rfl) [.int .u8 b.1, .int .u64 b.2] agg33 (two_cells HI.out.1.2.1.1 HI.out.1.2.1.2) (fun h => h) ?_
    simp only [Act.put, List.setIfInBounds_toArray, List.set_cons_zero, List.set_cons_succ]
    refine pl_loadw (by simp only [List.getD_cons_succ, List.getD_cons_zero]; rfl) (by rfl) (.tmp 3) 33 (by rfl) (w.heap.size) 0 (by rfl) [.int .u8 a.1, .int .u64 a.2] agg33 (two_cells HI.out.1.1.1 HI.out.1.1.2) (fun h => h) ?_
    simp only [Act.put, List.setIfInBounds_toArray, List.set_cons_zero, List.set_cons_succ]
    refine pl_grow (by simp only [List.getD_cons_succ, List.getD_cons_zero]; rfl) ?_
    go_wp2_with (go_at_call 14; ((with_reducible refine (hab _).mono ?_); rintro e w1 ⟨rfl, hk1⟩))
    refine GPost.mk hk1 ?_
    refine pl_grow (by simp only [List.getD_cons_succ, List.getD_cons_zero]; rfl) ?_
    go_wp2_with (go_at_call 14; ((with_reducible refine (hba _).mono ?_); rintro e w2 ⟨rfl, hk2⟩))
    refine GPost.mk hk2 ?_
    have I2 : Hid (IDs3 w2 w.heap.size a b c ∧ Kept No w w2) := ⟨HI.out.1.new (hk1.trans hk2), (HI.out.2.trans hk1).trans hk2⟩
    clear hk1 hk2
    repeat ((first | refine pl_pur (by simp only [List.getD_cons_succ, List.getD_cons_zero]; rfl) _ (by rfl) (fun W => by go_simp; with_reducible rfl) ?_ | refine pl_rd (by simp only [List.getD_cons_succ, List.getD_cons_zero]; rfl) _ (by rfl) (fun W hW => by have hc := kcell hW; clear hW; go_simp; with_reducible rfl) ?_); simp only [Act.put, List.setIfInBounds_toArray, List.set_cons_zero, List.set_cons_succ])
    repeat ((first | refine pl_pur (by simp only [List.getD_cons_succ, List.getD_cons_zero]; rfl) _ (by rfl) (fun W => by go_simp; with_reducible rfl) ?_ | refine pl_rd (by simp only [List.getD_cons_succ, List.getD_cons_zero]; rfl) _ (by rfl) (fun W hW => by have hc := kcell hW; clear hW; go_simp; with_reducible rfl) ?_ | refine pl_skip (by simp only [List.getD_cons_succ, List.getD_cons_zero]; rfl) (by rfl) ?_ | refine pl_skip_rd (by simp only [List.getD_cons_succ, List.getD_cons_zero]; rfl) (by rfl) ?_ | refine pl_skip_grow (by simp only [List.getD_cons_succ, List.getD_cons_zero]; rfl) (by rfl) ?_ | refine pl_skip_act (by simp only [List.getD_cons_succ, List.getD_cons_zero]; rfl) (by rfl) ?_); simp only [Act.put, List.setIfInBounds_toArray, List.set_cons_zero, List.set_cons_succ])
    refine pl_loadw (by simp only [List.getD_cons_succ, List.getD_cons_zero]; rfl) (by rfl) (.tmp 3) 33 (by rfl) (w.heap.size) 0 (by rfl) [.int .u8 a.1, .int .u64 a.2] agg33 (two_cells I2.out.1.1.1 I2.out.1.1.2) (fun h => h) ?_
    simp only [Act.put, List.setIfInBounds_toArray, List.set_cons_zero, List.set_cons_succ]
    refine pl_loadw (by simp only [List.getD_cons_succ, List.getD_cons_zero]; rfl) (by rfl) (.tmp 3) 33 (by rfl) (w.heap.size) 0 (by rfl) [.int .u8 a.1, .int .u64 a.2] agg33 (two_cells I2.out.1.1.1 I2.out.1.1.2) (fun h => h) ?_
    simp only [Act.put, List.setIfInBounds_toArray, List.set_cons_zero, List.set_cons_succ]
    refine pl_grow (by simp only [List.getD_cons_succ, List.getD_cons_zero]; rfl) ?_
    go_wp2_with (go_at_call 14; ((with_reducible refine (haa _).mono ?_); rintro e w3 ⟨rfl, hk3⟩))
    refine GPost.mk hk3 ?_
    repeat ((first | refine pl_pur (by simp only [List.getD_cons_succ, List.getD_cons_zero]; rfl) _ (by rfl) (fun W => by go_simp; with_reducible rfl) ?_ | refine pl_rd (by simp only [List.getD_cons_succ, List.getD_cons_zero]; rfl) _ (by rfl) (fun W hW => by have hc := kcell hW; clear hW; go_simp; with_reducible rfl) ?_); simp only [Act.put, List.setIfInBounds_toArray, List.set_cons_zero, List.set_cons_succ])
    refine pl_fin ?_
    have I3 : Hid (IDs3 w3 w.heap.size a b c ∧ Kept No w w3) := ⟨I2.out.1.new hk3, I2.out.2.trans hk3⟩
    clear hk3 I2 HI HW
    obtain ⟨⟨z0, z1⟩, ⟨z2, z3⟩, ⟨z4, z5⟩⟩ := I3.out.1
    go_wp2_with (first
      | (go_at_call 8; ((with_reducible refine (haw _).mono ?_); rintro e w9 ⟨rfl, hk9⟩; have I9 : Hid (Kept No w w9) := I5.out.2.trans hk9))
      | (go_at_call 14; first | ((with_reducible refine (hab _).mono ?_); rintro e w4 ⟨rfl, hk4⟩; have I4 : Hid (IDs3 w4 w.heap.size a b c ∧ Kept No w w4) := ⟨I3.out.1.new hk4, I3.out.2.trans hk4⟩; clear z0 z1 z2 z3 z4 z5 hk4; obtain ⟨⟨z0, z1⟩, ⟨z2, z3⟩, ⟨z4, z5⟩⟩ := I4.out.1; clear hab) | ((with_reducible refine (hbc _).mono ?_); rintro e w5 ⟨rfl, hk5⟩; have I5 : Hid (IDs3 w5 w.heap.size a b c ∧ Kept No w w5) := ⟨I4.out.1.new hk5, I4.out.2.trans hk5⟩; clear z0 z1 z2 z3 z4 z5 hk5; obtain ⟨⟨z0, z1⟩, ⟨z2, z3⟩, ⟨z4, z5⟩⟩ := I5.out.1; clear hbc)))
    go_ret
    exact ⟨rfl, I9.out⟩
  · go_enter Try.func4, Try.ntmps4
    go_wp2
    refine wp_region_plan No (.rd 0 (.rd 1 (.rd 3 (.rd 4 (.grow 2 (.grow 5 (.pur 6 (.pur 7 (.rd 8 (.rd 9 (.pur 10 (.pur 11 (.pur 12 (.rd 13 (.rd 14 (.grow 15 (.pur 16 .fin))))))))))))))))) [] mixed (by kernel_rfl) ?_
    rw [← HW.out]
    refine pl_loadw (by simp only [List.getD_cons_succ, List.getD_cons_zero]; rfl) (by rfl) (.tmp 3) 33 (by rfl) (w.heap.size) 0 (by rfl) [.int .u8 a.1, .int .u64 a.2] agg33 (two_cells HI.out.1.1.1 HI.out.1.1.2) (fun h => h) ?_
    simp only [Act.put, List.setIfInBounds_toArray, List.set_cons_zero, List.set_cons_succ]
    refine pl_loadw (by simp only [List.getD_cons_succ, List.getD_cons_zero]; rfl) (by rfl) (.tmp 4) 33 (by rfl) (w.heap.size + 1) 0 (by rfl) [.int .u8 b.1, .int .u64 b.2] agg33 (two_cells HI.out.1.2.1.1 HI.out.1.2.1.2) (fun h => h) ?_
    simp only [Act.put, List.setIfInBounds_toArray, List.set_cons_zero, List.set_cons_succ]
    refine pl_loadw (by simp only [List.getD_cons_succ, List.getD_cons_zero]; rfl) (by rfl) (.tmp 4) 33 (by rfl) (w.heap.size + 1) 0 (by rfl) [.int .u8 b.1, .int .u64 b.2] agg33 (two_cells HI.out.1.2.1.1 HI.out.1.2.1.2) (fun h => h) ?_
    simp only [Act.put, List.setIfInBounds_toArray, List.set_cons_zero, List.set_cons_succ]
    refine pl_loadw (by simp only [List.getD_cons_succ, List.getD_cons_zero]; rfl) (by rfl) (.tmp 3) 33 (by rfl) (w.heap.size) 0 (by rfl) [.int .u8 a.1, .int .u64 a.2] agg33 (two_cells HI.out.1.1.1 HI.out.1.1.2) (fun h => h) ?_
    simp only [Act.put, List.setIfInBounds_toArray, List.set_cons_zero, List.set_cons_succ]
    refine pl_grow (by simp only [List.getD_cons_succ, List.getD_cons_zero]; rfl) ?_
    go_wp2_with (go_at_call 14; ((with_reducible refine (hab _).mono ?_); rintro e w1 ⟨rfl, hk1⟩))
    refine GPost.mk hk1 ?_
    refine pl_grow (by simp only [List.getD_cons_succ, List.getD_cons_zero]; rfl) ?_
    go_wp2_with (go_at_call 14; ((with_reducible refine (hba _).mono ?_); rintro e w2 ⟨rfl, hk2⟩))
    refine GPost.mk hk2 ?_
    have I2 : Hid (IDs3 w2 w.heap.size a b c ∧ Kept No w w2) := ⟨HI.out.1.new (hk1.trans hk2), (HI.out.2.trans hk1).trans hk2⟩
    clear hk1 hk2
    repeat ((first | refine pl_pur (by simp only [List.getD_cons_succ, List.getD_cons_zero]; rfl) _ (by rfl) (fun W => by go_simp; with_reducible rfl) ?_ | refine pl_rd (by simp only [List.getD_cons_succ, List.getD_cons_zero]; rfl) _ (by rfl) (fun W hW => by have hc := kcell hW; clear hW; go_simp; with_reducible rfl) ?_); simp only [Act.put, List.setIfInBounds_toArray, List.set_cons_zero, List.set_cons_succ])
    repeat ((first | refine pl_pur (by simp only [List.getD_cons_succ, List.getD_cons_zero]; rfl) _ (by rfl) (fun W => by go_simp; with_reducible rfl) ?_ | refine pl_rd (by simp only [List.getD_cons_succ, List.getD_cons_zero]; rfl) _ (by rfl) (fun W hW => by have hc := kcell hW; clear hW; go_simp; with_reducible rfl) ?_ | refine pl_skip (by simp only [List.getD_cons_succ, List.getD_cons_zero]; rfl) (by rfl) ?_ | refine pl_skip_rd (by simp only [List.getD_cons_succ, List.getD_cons_zero]; rfl) (by rfl) ?_ | refine pl_skip_grow (by simp only [List.getD_cons_succ, List.getD_cons_zero]; rfl) (by rfl) ?_ | refine pl_skip_act (by simp only [List.getD_cons_succ, List.getD_cons_zero]; rfl) (by rfl) ?_); simp only [Act.put, List.setIfInBounds_toArray, List.set_cons_zero, List.set_cons_succ])
    refine pl_loadw (by simp only [List.getD_cons_succ, List.getD_cons_zero]; rfl) (by rfl) (.tmp 3) 33 (by rfl) (w.heap.size) 0 (by rfl) [.int .u8 a.1, .int .u64 a.2] agg33 (two_cells I2.out.1.1.1 I2.out.1.1.2) (fun h => h) ?_
    simp only [Act.put, List.setIfInBounds_toArray, List.set_cons_zero, List.set_cons_succ]
    refine pl_loadw (by simp only [List.getD_cons_succ, List.getD_cons_zero]; rfl) (by rfl) (.tmp 3) 33 (by rfl) (w.heap.size) 0 (by rfl) [.int .u8 a.1, .int .u64 a.2] agg33 (two_cells I2.out.1.1.1 I2.out.1.1.2) (fun h => h) ?_
    simp only [Act.put, List.setIfInBounds_toArray, List.set_cons_zero, List.set_cons_succ]
    refine pl_grow (by simp only [List.getD_cons_succ, List.getD_cons_zero]; rfl) ?_
    go_wp2_with (go_at_call 14; ((with_reducible refine (haa _).mono ?_); rintro e w3 ⟨rfl, hk3⟩))
    refine GPost.mk hk3 ?_
    repeat ((first | refine pl_pur (by simp only [List.getD_cons_succ, List.getD_cons_zero]; rfl) _ (by rfl) (fun W => by go_simp; with_reducible rfl) ?_ | refine pl_rd (by simp only [List.getD_cons_succ, List.getD_cons_zero]; rfl) _ (by rfl) (fun W hW => by have hc := kcell hW; clear hW; go_simp; with_reducible rfl) ?_); simp only [Act.put, List.setIfInBounds_toArray, List.set_cons_zero, List.set_cons_succ])
    refine pl_fin ?_
    have I3 : Hid (IDs3 w3 w.heap.size a b c ∧ Kept No w w3) := ⟨I2.out.1.new hk3, I2.out.2.trans hk3⟩
    clear hk3 I2 HI HW
    obtain ⟨⟨z0, z1⟩, ⟨z2, z3⟩, ⟨z4, z5⟩⟩ := I3.out.1
    go_wp2_with (first
      | (go_at_call 8; ((with_reducible refine (haw _).mono ?_); rintro e w9 ⟨rfl, hk9⟩; have I9 : Hid (Kept No w w9) := I6.out.2.trans hk9))
      | (go_at_call 14; first | ((with_reducible refine (hab _).mono ?_); rintro e w4 ⟨rfl, hk4⟩; have I4 : Hid (IDs3 w4 w.heap.size a b c ∧ Kept No w w4) := ⟨I3.out.1.new hk4, I3.out.2.trans hk4⟩; clear z0 z1 z2 z3 z4 z5 hk4; obtain ⟨⟨z0, z1⟩, ⟨z2, z3⟩, ⟨z4, z5⟩⟩ := I4.out.1; clear hab) | ((with_reducible refine (hbc _).mono ?_); rintro e w5 ⟨rfl, hk5⟩; have I5 : Hid (IDs3 w5 w.heap.size a b c ∧ Kept No w w5) := ⟨I4.out.1.new hk5, I4.out.2.trans hk5⟩; clear z0 z1 z2 z3 z4 z5 hk5; obtain ⟨⟨z0, z1⟩, ⟨z2, z3⟩, ⟨z4, z5⟩⟩ := I5.out.1; clear hbc) | ((with_reducible refine (hac _).mono ?_); rintro e w6 ⟨rfl, hk6⟩; have I6 : Hid (IDs3 w6 w.heap.size a b c ∧ Kept No w w6) := ⟨I5.out.1.new hk6, I5.out.2.trans hk6⟩; clear z0 z1 z2 z3 z4 z5 hk6; obtain ⟨⟨z0, z1⟩, ⟨z2, z3⟩, ⟨z4, z5⟩⟩ := I6.out.1; clear hac)))
    go_ret
    exact ⟨rfl, I9.out⟩
theorem identChain_row (a b : Int) (ha : InR .u8 a) (hb : InR .u64 b) (c d : Int) (hc : InR .u8 c) (hd : InR .u64 d) (e f : Int) (he : InR .u8 e) (hf : InR .u64 f) (w : World) :
    Calls Try.prog 4 #[.agg #[.int .u8 a, .int .u64 b], .agg #[.int .u8 c, .int .u64 d], .agg #[.int .u8 e, .int .u64 f]] w fun e w' => e = .returned (.bool true) ∧ Kept No w w' := identChain_any (a, b) (c, d) (e, f) w
end Go.Proofs.Ytjokkmhndahnkaa
