/- IdentIs: whether an id, and a run, may be, which of two ids stands ahead, and whether runs are rows, have an id, and how many they have, are the document's: the walk of the law. -/
import Derived.Test.YtjokkmhndahnkaaIHas
set_option linter.unusedVariables false
set_option linter.unusedSimpArgs false
namespace Go.Proofs.Ytjokkmhndahnkaa
open Go.RowKit

set_option maxRecDepth 20000 in
set_option maxHeartbeats 2000000 in
theorem identIs_any (a b : PID) (ha : okID a) (n : Int) (x : PRun) (hx : okRun x) (v : Value) (l : List PRun) (w : World) (hl : Sl kRun w (Old w) v l) :
    Calls Try.prog 6 #[.agg #[.int .u8 a.1, .int .u64 a.2], .agg #[.int .u8 b.1, .int .u64 b.2], .int .i64 n, .agg #[.int .u8 x.1, .int .u64 x.2.1, .int .u64 x.2.2], v] w fun e w' => e = .returned (.bool true) ∧ Kept No w w' := by
  have haw := fun W => awake_any W
  obtain ⟨A, c, rfl, hc1, hc2⟩ := hl.slice
  simp only [maxLen] at hc2
  obtain ⟨m, hm⟩ : ∃ m, m = l.length := ⟨_, rfl⟩
  rw [← hm] at hc1 hl ⊢
  have kb : Kept No w (((w.alloc (.cells #[.int .u8 a.1, .int .u64 a.2] 33)).alloc (.cells #[.int .u8 b.1, .int .u64 b.2] 33)).alloc (.cells #[.int .u8 x.1, .int .u64 x.2.1, .int .u64 x.2.2] 40)) := (((Kept.refl _ _).alloc _).alloc _).alloc _
  have KB : Hid (Kept No w (((w.alloc (.cells #[.int .u8 a.1, .int .u64 a.2] 33)).alloc (.cells #[.int .u8 b.1, .int .u64 b.2] 33)).alloc (.cells #[.int .u8 x.1, .int .u64 x.2.1, .int .u64 x.2.2] 40))) := kb
  by_cases hbig : 100 < m
  · clear hm hl kb
    go_enter Try.func6, Try.ntmps6
    go_wp2_with (go_at_call 8; ((with_reducible refine (haw _).mono ?_); rintro e w1 ⟨rfl, hk1⟩))
    go_ret
    exact ⟨rfl, KB.out.trans hk1⟩
  · obtain ⟨W, hW⟩ : ∃ W, W = (((w.alloc (.cells #[.int .u8 a.1, .int .u64 a.2] 33)).alloc (.cells #[.int .u8 b.1, .int .u64 b.2] 33)).alloc (.cells #[.int .u8 x.1, .int .u64 x.2.1, .int .u64 x.2.2] 40)).drew := ⟨_, rfl⟩
    have u0 := heap_alloc_new w (.cells #[.int .u8 a.1, .int .u64 a.2] 33)
    have u1 := heap_alloc_new (w.alloc (.cells #[.int .u8 a.1, .int .u64 a.2] 33)) (.cells #[.int .u8 b.1, .int .u64 b.2] 33)
    have u2 := heap_alloc_new ((w.alloc (.cells #[.int .u8 a.1, .int .u64 a.2] 33)).alloc (.cells #[.int .u8 b.1, .int .u64 b.2] 33)) (.cells #[.int .u8 x.1, .int .u64 x.2.1, .int .u64 x.2.2] 40)
    simp only [World.size_alloc] at u1 u2
    have k1 : Kept No (w.alloc (.cells #[.int .u8 a.1, .int .u64 a.2] 33)) W := by rw [hW]; exact (((Kept.refl _ _).alloc _).alloc _).drew
    have k2 : Kept No ((w.alloc (.cells #[.int .u8 a.1, .int .u64 a.2] 33)).alloc (.cells #[.int .u8 b.1, .int .u64 b.2] 33)) W := by rw [hW]; exact ((Kept.refl _ _).alloc _).drew
    have k3 : Kept No (((w.alloc (.cells #[.int .u8 a.1, .int .u64 a.2] 33)).alloc (.cells #[.int .u8 b.1, .int .u64 b.2] 33)).alloc (.cells #[.int .u8 x.1, .int .u64 x.2.1, .int .u64 x.2.2] 40)) W := by rw [hW]; exact (Kept.refl _ _).drew
    have HI : Hid (Kept No w W ∧ Sl kRun W (Old w) (.slice A m c) l ∧ IDAt W (w.heap.size) a ∧ IDAt W (w.heap.size + 1) b ∧ RunAt W (w.heap.size + 1 + 1) x.1 x.2.1 x.2.2) := ⟨kb.trans k3, hl.new (kb.trans k3),
      ⟨k1.cell (p := ⟨w.heap.size, 0, none⟩) ((cell_of_row _ _ _ _ _ _ u0).trans rfl) id, k1.cell (p := ⟨w.heap.size, 1, none⟩) ((cell_of_row _ _ _ _ _ _ u0).trans rfl) id⟩,
      ⟨k2.cell (p := ⟨w.heap.size + 1, 0, none⟩) ((cell_of_row _ _ _ _ _ _ u1).trans rfl) id, k2.cell (p := ⟨w.heap.size + 1, 1, none⟩) ((cell_of_row _ _ _ _ _ _ u1).trans rfl) id⟩,
      ⟨k3.cell (p := ⟨w.heap.size + 1 + 1, 0, none⟩) ((cell_of_row _ _ _ _ _ _ u2).trans rfl) id, k3.cell (p := ⟨w.heap.size + 1 + 1, 1, none⟩) ((cell_of_row _ _ _ _ _ _ u2).trans rfl) id, k3.cell (p := ⟨w.heap.size + 1 + 1, 2, none⟩) ((cell_of_row _ _ _ _ _ _ u2).trans rfl) id⟩⟩
    have HW : Hid (W = (((w.alloc (.cells #[.int .u8 a.1, .int .u64 a.2] 33)).alloc (.cells #[.int .u8 b.1, .int .u64 b.2] 33)).alloc (.cells #[.int .u8 x.1, .int .u64 x.2.1, .int .u64 x.2.2] 40)).drew) := hW
    have hao := okID_iff.1 ha
    have c17 := fun W => may_op a.1 a.2 n W hao.1 hao.2.1
    have c18 := fun W => may_ref a.1 a.2 n W hao.1 hao.2.1
    have c14 := fun W => less_op a.1 a.2 b.1 b.2 W
    have c19 := fun W => less_ref a.1 a.2 b.1 b.2 W
    have c20 := fun W => run_op x.1 x.2.1 x.2.2 W hx
    have c21 := fun W => run_ref x.1 x.2.1 x.2.2 W hx
    have c22 := fun W0 (hk : Kept No W W0) => rows_op (.slice A m c) l W0 _ (HI.out.2.1.new hk)
    have c10 := fun W0 (hk : Kept No W W0) => rows_ref (.slice A m c) l W0 _ (HI.out.2.1.new hk)
    have c23 := fun W0 (hk : Kept No W W0) => has_op a (.slice A m c) l W0 _ (HI.out.2.1.new hk) ha
    have c24 := fun W0 (hk : Kept No W W0) => has_ref a (.slice A m c) l W0 _ (HI.out.2.1.new hk) ha
    have c25 := fun W0 (hk : Kept No W W0) => count_op (.slice A m c) l W0 _ (HI.out.2.1.new hk)
    have c26 := fun W0 (hk : Kept No W W0) => count_ref (.slice A m c) l W0 _ (HI.out.2.1.new hk)
    generalize mayP n (a.1, a.2) = b1 at c17 c18
    generalize lessI (a.1, a.2) (b.1, b.2) = b2 at c14 c19
    generalize runI (x.1, x.2.1, x.2.2) = b3 at c20 c21
    generalize rowsI l = b4 at c22 c10
    generalize hasI a l = b5 at c23 c24
    generalize countI l = C at c25 c26
    have HC : Hid ((∀ W0, Kept No W W0 → Calls Try.prog 22 #[.slice A m c] W0 fun e w' => e = .returned (.bool b4) ∧ Kept No W0 w') ∧ (∀ W0, Kept No W W0 → Calls Try.prog 10 #[.slice A m c] W0 fun e w' => e = .returned (.bool b4) ∧ Kept No W0 w') ∧
      (∀ W0, Kept No W W0 → Calls Try.prog 23 #[.agg #[.int .u8 a.1, .int .u64 a.2], .slice A m c] W0 fun e w' => e = .returned (.bool b5) ∧ Kept No W0 w') ∧ (∀ W0, Kept No W W0 → Calls Try.prog 24 #[.agg #[.int .u8 a.1, .int .u64 a.2], .slice A m c] W0 fun e w' => e = .returned (.bool b5) ∧ Kept No W0 w') ∧
      (∀ W0, Kept No W W0 → Calls Try.prog 25 #[.slice A m c] W0 fun e w' => e = .returned (.int .u64 C) ∧ Kept No W0 w') ∧ (∀ W0, Kept No W W0 → Calls Try.prog 26 #[.slice A m c] W0 fun e w' => e = .returned (.int .u64 C) ∧ Kept No W0 w')) := ⟨c22, c10, c23, c24, c25, c26⟩
    clear hao ha hx hm hl kb k1 k2 k3 u0 u1 u2 hW c22 c10 c23 c24 c25 c26
    go_enter Try.func6, Try.ntmps6
    go_wp2
    refine wp_region_plan No (.pur 1 (.pur 4 (.rd 0 (.rd 3 (.grow 2 (.grow 5 (.pur 6 (.pur 7 (.rd 8 (.rd 9 (.rd 11 (.rd 12 (.grow 10 (.grow 13 (.pur 14 (.pur 15 (.pur 16 (.rd 17 (.rd 19 (.grow 18 (.grow 20 (.pur 21 (.pur 22 (.pur 23 (.pur 24 (.pur 26 (.grow 25 (.grow 27 (.pur 28 (.pur 29 (.pur 30 (.pur 32 (.pur 35 (.rd 31 (.rd 34 (.grow 33 (.grow 36 (.pur 37 (.pur 38 (.pur 39 (.pur 40 (.pur 42 (.grow 41 (.grow 43 (.pur 44 (.pur 45 (.pur 46 (.grow 47 (.pur 48 (.pur 49 .fin)))))))))))))))))))))))))))))))))))))))))))))))))) [] mixed (by kernel_rfl) ?_
    rw [← HW.out]
    repeat ((first | refine pl_pur (by simp only [List.getD_cons_succ, List.getD_cons_zero]; rfl) _ (by rfl) (fun W => by go_simp; with_reducible rfl) ?_ | refine pl_rd (by simp only [List.getD_cons_succ, List.getD_cons_zero]; rfl) _ (by rfl) (fun W hW => by have hc := kcell hW; clear hW; go_simp; with_reducible rfl) ?_); simp only [Act.put, List.setIfInBounds_toArray, List.set_cons_zero, List.set_cons_succ])
    refine pl_loadw (by simp only [List.getD_cons_succ, List.getD_cons_zero]; rfl) (by rfl) (.tmp 5) 33 (by rfl) (w.heap.size) 0 (by rfl) [.int .u8 a.1, .int .u64 a.2] agg33 (two_cells HI.out.2.2.1.1 HI.out.2.2.1.2) (fun h => h) ?_
    simp only [Act.put, List.setIfInBounds_toArray, List.set_cons_zero, List.set_cons_succ]
    refine pl_loadw (by simp only [List.getD_cons_succ, List.getD_cons_zero]; rfl) (by rfl) (.tmp 5) 33 (by rfl) (w.heap.size) 0 (by rfl) [.int .u8 a.1, .int .u64 a.2] agg33 (two_cells HI.out.2.2.1.1 HI.out.2.2.1.2) (fun h => h) ?_
    simp only [Act.put, List.setIfInBounds_toArray, List.set_cons_zero, List.set_cons_succ]
    refine pl_grow (by simp only [List.getD_cons_succ, List.getD_cons_zero]; rfl) ?_
    go_wp2_with (go_at_call 17; ((with_reducible refine (c17 _).mono ?_); rintro e w1 ⟨rfl, hk1⟩))
    refine GPost.mk hk1 ?_
    have K1 : Hid (Kept No W w1) := (Kept.refl _ _).trans hk1
    clear hk1
    refine pl_grow (by simp only [List.getD_cons_succ, List.getD_cons_zero]; rfl) ?_
    go_wp2_with (go_at_call 18; ((with_reducible refine (c18 _).mono ?_); rintro e w2 ⟨rfl, hk2⟩))
    refine GPost.mk hk2 ?_
    have K2 : Hid (Kept No W w2) := K1.out.trans hk2
    clear hk2
    repeat ((first | refine pl_pur (by simp only [List.getD_cons_succ, List.getD_cons_zero]; rfl) _ (by rfl) (fun W => by go_simp; with_reducible rfl) ?_ | refine pl_rd (by simp only [List.getD_cons_succ, List.getD_cons_zero]; rfl) _ (by rfl) (fun W hW => by have hc := kcell hW; clear hW; go_simp; with_reducible rfl) ?_); simp only [Act.put, List.setIfInBounds_toArray, List.set_cons_zero, List.set_cons_succ])
    refine pl_loadw (by simp only [List.getD_cons_succ, List.getD_cons_zero]; rfl) (by rfl) (.tmp 5) 33 (by rfl) (w.heap.size) 0 (by rfl) [.int .u8 a.1, .int .u64 a.2] agg33 (two_cells (HI.out.2.2.1.new K2.out).1 (HI.out.2.2.1.new K2.out).2) (fun h => h) ?_
    simp only [Act.put, List.setIfInBounds_toArray, List.set_cons_zero, List.set_cons_succ]
    refine pl_loadw (by simp only [List.getD_cons_succ, List.getD_cons_zero]; rfl) (by rfl) (.tmp 6) 33 (by rfl) (w.heap.size + 1) 0 (by rfl) [.int .u8 b.1, .int .u64 b.2] agg33 (two_cells (HI.out.2.2.2.1.new K2.out).1 (HI.out.2.2.2.1.new K2.out).2) (fun h => h) ?_
    simp only [Act.put, List.setIfInBounds_toArray, List.set_cons_zero, List.set_cons_succ]
    refine pl_loadw (by simp only [List.getD_cons_succ, List.getD_cons_zero]; rfl) (by rfl) (.tmp 5) 33 (by rfl) (w.heap.size) 0 (by rfl) [.int .u8 a.1, .int .u64 a.2] agg33 (two_cells (HI.out.2.2.1.new K2.out).1 (HI.out.2.2.1.new K2.out).2) (fun h => h) ?_
    simp only [Act.put, List.setIfInBounds_toArray, List.set_cons_zero, List.set_cons_succ]
    refine pl_loadw (by simp only [List.getD_cons_succ, List.getD_cons_zero]; rfl) (by rfl) (.tmp 6) 33 (by rfl) (w.heap.size + 1) 0 (by rfl) [.int .u8 b.1, .int .u64 b.2] agg33 (two_cells (HI.out.2.2.2.1.new K2.out).1 (HI.out.2.2.2.1.new K2.out).2) (fun h => h) ?_
    simp only [Act.put, List.setIfInBounds_toArray, List.set_cons_zero, List.set_cons_succ]
    refine pl_grow (by simp only [List.getD_cons_succ, List.getD_cons_zero]; rfl) ?_
    go_wp2_with (go_at_call 14; ((with_reducible refine (c14 _).mono ?_); rintro e w3 ⟨rfl, hk3⟩))
    refine GPost.mk hk3 ?_
    have K3 : Hid (Kept No W w3) := K2.out.trans hk3
    clear hk3
    refine pl_grow (by simp only [List.getD_cons_succ, List.getD_cons_zero]; rfl) ?_
    go_wp2_with (go_at_call 19; ((with_reducible refine (c19 _).mono ?_); rintro e w4 ⟨rfl, hk4⟩))
    refine GPost.mk hk4 ?_
    have K4 : Hid (Kept No W w4) := K3.out.trans hk4
    clear hk4
    repeat ((first | refine pl_pur (by simp only [List.getD_cons_succ, List.getD_cons_zero]; rfl) _ (by rfl) (fun W => by go_simp; with_reducible rfl) ?_ | refine pl_rd (by simp only [List.getD_cons_succ, List.getD_cons_zero]; rfl) _ (by rfl) (fun W hW => by have hc := kcell hW; clear hW; go_simp; with_reducible rfl) ?_); simp only [Act.put, List.setIfInBounds_toArray, List.set_cons_zero, List.set_cons_succ])
    refine pl_loadw (by simp only [List.getD_cons_succ, List.getD_cons_zero]; rfl) (by rfl) (.tmp 8) 40 (by rfl) (w.heap.size + 1 + 1) 0 (by rfl) [.int .u8 x.1, .int .u64 x.2.1, .int .u64 x.2.2] agg40 (three_cells (HI.out.2.2.2.2.kept K4.out id).1 (HI.out.2.2.2.2.kept K4.out id).2.1 (HI.out.2.2.2.2.kept K4.out id).2.2) (fun h => h) ?_
    simp only [Act.put, List.setIfInBounds_toArray, List.set_cons_zero, List.set_cons_succ]
    refine pl_loadw (by simp only [List.getD_cons_succ, List.getD_cons_zero]; rfl) (by rfl) (.tmp 8) 40 (by rfl) (w.heap.size + 1 + 1) 0 (by rfl) [.int .u8 x.1, .int .u64 x.2.1, .int .u64 x.2.2] agg40 (three_cells (HI.out.2.2.2.2.kept K4.out id).1 (HI.out.2.2.2.2.kept K4.out id).2.1 (HI.out.2.2.2.2.kept K4.out id).2.2) (fun h => h) ?_
    simp only [Act.put, List.setIfInBounds_toArray, List.set_cons_zero, List.set_cons_succ]
    refine pl_grow (by simp only [List.getD_cons_succ, List.getD_cons_zero]; rfl) ?_
    go_wp2_with (go_at_call 20; ((with_reducible refine (c20 _).mono ?_); rintro e w5 ⟨rfl, hk5⟩))
    refine GPost.mk hk5 ?_
    have K5 : Hid (Kept No W w5) := K4.out.trans hk5
    clear hk5
    refine pl_grow (by simp only [List.getD_cons_succ, List.getD_cons_zero]; rfl) ?_
    go_wp2_with (go_at_call 21; ((with_reducible refine (c21 _).mono ?_); rintro e w6 ⟨rfl, hk6⟩))
    refine GPost.mk hk6 ?_
    have K6 : Hid (Kept No W w6) := K5.out.trans hk6
    clear hk6
    repeat ((first | refine pl_pur (by simp only [List.getD_cons_succ, List.getD_cons_zero]; rfl) _ (by rfl) (fun W => by go_simp; with_reducible rfl) ?_ | refine pl_rd (by simp only [List.getD_cons_succ, List.getD_cons_zero]; rfl) _ (by rfl) (fun W hW => by have hc := kcell hW; clear hW; go_simp; with_reducible rfl) ?_); simp only [Act.put, List.setIfInBounds_toArray, List.set_cons_zero, List.set_cons_succ])
    refine pl_grow (by simp only [List.getD_cons_succ, List.getD_cons_zero]; rfl) ?_
    go_wp2_with (go_at_call 22; ((with_reducible refine (HC.out.1 _ K6.out).mono ?_); rintro e w7 ⟨rfl, hk7⟩))
    refine GPost.mk hk7 ?_
    have K7 : Hid (Kept No W w7) := K6.out.trans hk7
    clear hk7
    refine pl_grow (by simp only [List.getD_cons_succ, List.getD_cons_zero]; rfl) ?_
    go_wp2_with (go_at_call 10; ((with_reducible refine (HC.out.2.1 _ K7.out).mono ?_); rintro e w8 ⟨rfl, hk8⟩))
    refine GPost.mk hk8 ?_
    have K8 : Hid (Kept No W w8) := K7.out.trans hk8
    clear hk8
    repeat ((first | refine pl_pur (by simp only [List.getD_cons_succ, List.getD_cons_zero]; rfl) _ (by rfl) (fun W => by go_simp; with_reducible rfl) ?_ | refine pl_rd (by simp only [List.getD_cons_succ, List.getD_cons_zero]; rfl) _ (by rfl) (fun W hW => by have hc := kcell hW; clear hW; go_simp; with_reducible rfl) ?_); simp only [Act.put, List.setIfInBounds_toArray, List.set_cons_zero, List.set_cons_succ])
    refine pl_loadw (by simp only [List.getD_cons_succ, List.getD_cons_zero]; rfl) (by rfl) (.tmp 5) 33 (by rfl) (w.heap.size) 0 (by rfl) [.int .u8 a.1, .int .u64 a.2] agg33 (two_cells (HI.out.2.2.1.new K8.out).1 (HI.out.2.2.1.new K8.out).2) (fun h => h) ?_
    simp only [Act.put, List.setIfInBounds_toArray, List.set_cons_zero, List.set_cons_succ]
    refine pl_loadw (by simp only [List.getD_cons_succ, List.getD_cons_zero]; rfl) (by rfl) (.tmp 5) 33 (by rfl) (w.heap.size) 0 (by rfl) [.int .u8 a.1, .int .u64 a.2] agg33 (two_cells (HI.out.2.2.1.new K8.out).1 (HI.out.2.2.1.new K8.out).2) (fun h => h) ?_
    simp only [Act.put, List.setIfInBounds_toArray, List.set_cons_zero, List.set_cons_succ]
    refine pl_grow (by simp only [List.getD_cons_succ, List.getD_cons_zero]; rfl) ?_
    go_wp2_with (go_at_call 23; ((with_reducible refine (HC.out.2.2.1 _ K8.out).mono ?_); rintro e w9 ⟨rfl, hk9⟩))
    refine GPost.mk hk9 ?_
    have K9 : Hid (Kept No W w9) := K8.out.trans hk9
    clear hk9
    refine pl_grow (by simp only [List.getD_cons_succ, List.getD_cons_zero]; rfl) ?_
    go_wp2_with (go_at_call 24; ((with_reducible refine (HC.out.2.2.2.1 _ K9.out).mono ?_); rintro e w10 ⟨rfl, hk10⟩))
    refine GPost.mk hk10 ?_
    have K10 : Hid (Kept No W w10) := K9.out.trans hk10
    clear hk10
    repeat ((first | refine pl_pur (by simp only [List.getD_cons_succ, List.getD_cons_zero]; rfl) _ (by rfl) (fun W => by go_simp; with_reducible rfl) ?_ | refine pl_rd (by simp only [List.getD_cons_succ, List.getD_cons_zero]; rfl) _ (by rfl) (fun W hW => by have hc := kcell hW; clear hW; go_simp; with_reducible rfl) ?_); simp only [Act.put, List.setIfInBounds_toArray, List.set_cons_zero, List.set_cons_succ])
    refine pl_grow (by simp only [List.getD_cons_succ, List.getD_cons_zero]; rfl) ?_
    go_wp2_with (go_at_call 25; ((with_reducible refine (HC.out.2.2.2.2.1 _ K10.out).mono ?_); rintro e w11 ⟨rfl, hk11⟩))
    refine GPost.mk hk11 ?_
    have K11 : Hid (Kept No W w11) := K10.out.trans hk11
    clear hk11
    refine pl_grow (by simp only [List.getD_cons_succ, List.getD_cons_zero]; rfl) ?_
    go_wp2_with (go_at_call 26; ((with_reducible refine (HC.out.2.2.2.2.2 _ K11.out).mono ?_); rintro e w12 ⟨rfl, hk12⟩))
    refine GPost.mk hk12 ?_
    have K12 : Hid (Kept No W w12) := K11.out.trans hk12
    clear hk12
    repeat ((first | refine pl_pur (by simp only [List.getD_cons_succ, List.getD_cons_zero]; rfl) _ (by rfl) (fun W => by go_simp; with_reducible rfl) ?_ | refine pl_rd (by simp only [List.getD_cons_succ, List.getD_cons_zero]; rfl) _ (by rfl) (fun W hW => by have hc := kcell hW; clear hW; go_simp; with_reducible rfl) ?_); simp only [Act.put, List.setIfInBounds_toArray, List.set_cons_zero, List.set_cons_succ])
    refine pl_grow (by simp only [List.getD_cons_succ, List.getD_cons_zero]; rfl) ?_
    go_wp2_with (go_at_call 8; ((with_reducible refine (haw _).mono ?_); rintro e w13 ⟨rfl, hk13⟩))
    refine GPost.mk hk13 ?_
    have K13 : Hid (Kept No W w13) := K12.out.trans hk13
    clear hk13
    repeat ((first | refine pl_pur (by simp only [List.getD_cons_succ, List.getD_cons_zero]; rfl) _ (by rfl) (fun W => by go_simp; with_reducible rfl) ?_ | refine pl_rd (by simp only [List.getD_cons_succ, List.getD_cons_zero]; rfl) _ (by rfl) (fun W hW => by have hc := kcell hW; clear hW; go_simp; with_reducible rfl) ?_); simp only [Act.put, List.setIfInBounds_toArray, List.set_cons_zero, List.set_cons_succ])
    refine pl_fin ?_
    go_wp2
    go_ret
    exact ⟨rfl, HI.out.1.trans K13.out⟩
theorem identIs_row (a b : Int) (ha : InR .u8 a) (hb : InR .u64 b) (c d : Int) (hc : InR .u8 c) (hd : InR .u64 d) (n : Int) (hn : InR .i64 n) (f s k : Int) (hf : InR .u8 f) (hs : InR .u64 s) (hk : InR .u64 k) (v : Value) (l : List PRun) (w : World) (hl : Sl kRun w (Old w) v l) :
    Calls Try.prog 6 #[.agg #[.int .u8 a, .int .u64 b], .agg #[.int .u8 c, .int .u64 d], .int .i64 n, .agg #[.int .u8 f, .int .u64 s, .int .u64 k], v] w fun e w' => e = .returned (.bool true) ∧ Kept No w w' := identIs_any (a, b) (c, d) ⟨ha, hb⟩ n (f, s, k) ⟨hf, hs, hk⟩ v l w hl
section
variable {H : Type} {P : Program} {enc : TypeId × Value → H} {w : World} {base : Nat} {spare : Nat → Bool} {held : Bool}
open Go.ChangeShapes
theorem trodAll_five {t0 t1 t2 t3 t4 : TypeId} {args : Array Value} {ds : List (DataW H)} {ps : List MemPlace} (h : DataW.TrodAll enc P w base spare held [t0, t1, t2, t3, t4] args.toList ds ps) :
    ∃ v0 v1 v2 v3 v4 d0 d1 d2 d3 d4 p0 p1 p2 p3 p4, args = #[v0, v1, v2, v3, v4] ∧ ds = [d0, d1, d2, d3, d4] ∧ ps = p0 ++ p1 ++ p2 ++ p3 ++ p4 ∧ DataW.Trod enc P w base spare held t0 v0 d0 p0 ∧ DataW.Trod enc P w base spare held t1 v1 d1 p1 ∧ DataW.Trod enc P w base spare held t2 v2 d2 p2 ∧ DataW.Trod enc P w base spare held t3 v3 d3 p3 ∧ DataW.Trod enc P w base spare held t4 v4 d4 p4 := by
  obtain ⟨v0, vs0, d0, ds0, p0, q0, hargs, rfl, rfl, hd0, r0⟩ := trodAll_cons h
  obtain ⟨v1, vs1, d1, ds1, p1, q1, rfl, rfl, rfl, hd1, r1⟩ := trodAll_cons r0
  obtain ⟨v2, vs2, d2, ds2, p2, q2, rfl, rfl, rfl, hd2, r2⟩ := trodAll_cons r1
  obtain ⟨v3, vs3, d3, ds3, p3, q3, rfl, rfl, rfl, hd3, r3⟩ := trodAll_cons r2
  obtain ⟨v4, vs4, d4, ds4, p4, q4, rfl, rfl, rfl, hd4, r4⟩ := trodAll_cons r3
  obtain ⟨rfl, rfl, rfl⟩ := trodAll_nil r4
  exact ⟨v0, v1, v2, v3, v4, d0, d1, d2, d3, d4, p0, p1, p2, p3, p4, by cases args; simp_all, rfl, by simp, hd0, hd1, hd2, hd3, hd4⟩
end
end Go.Proofs.Ytjokkmhndahnkaa
