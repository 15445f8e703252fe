/- MatrixNil: the walk. -/
import Derived.Test.YtfnecdkfhackkaaAw18
set_option linter.unusedVariables false
set_option linter.unusedSimpArgs false
namespace Go.Proofs.Ytfnecdkfhackkaa
open Go.RowKit

theorem gone_nil1 {b : Nat} (p : Int) (w : World) (hc : w.cell? ⟨b, 0, none⟩ = some (.int .i64 p)) : Calls Try.prog 15 #[.pointer none, .slice (some ⟨b, 0, none⟩) 1 1] w fun e w' => e = .returned (.int .i64 0) ∧ w = w' := by
  have hof := fun W => of_nil p W
  have HC : Hid (w.cell? ⟨b, 0, none⟩ = some (.int .i64 p)) := hc
  clear hc
  go_enter Try.func15, Try.ntmps15
  go_wp2
  go_loopw [5, 11] (fun t i wr => ∃ k : Nat, k ≤ 1 ∧ i = .int .i64 k ∧ t = .int .i64 0 ∧ w = wr) (fun _ i _ => 1 - (intOf i).toNat)
  case atStart => exact ⟨0, Nat.zero_le _, rfl, rfl, rfl⟩
  case round =>
    obtain ⟨k, hk, rfl, rfl, rfl⟩ := hrel
    by_cases hlt : k < 1
    · have : k = 0 := by omega
      subst this
      have hc := HC.out
      go_wp2_with (go_at_call 45; ((with_reducible refine (hof _).mono ?_); rintro e w' ⟨rfl, rfl⟩))
      go_roundw
      case rel => exact ⟨1, by omega, by go_num, by simp⟩
      case measure => simp [intOf]
    · have : k = 1 := by omega
      subst this
      go_wp2
      go_ret
      exact ⟨rfl, rfl⟩
theorem done_nil (p : Int) (w : World) : Calls Try.prog 22 #[.pointer none, .int .i64 p] w fun e w' => e = .returned (.slice none 0 0) ∧ w = w' := by
  have hof := of_nil p w
  go_enter Try.func22, Try.ntmps22
  go_wp2_with (go_at_call 45; ((with_reducible refine hof.mono ?_); rintro e w' ⟨rfl, rfl⟩))
  go_ret
  exact ⟨rfl, rfl⟩
theorem held_nil (p : Int) (w : World) : Calls Try.prog 23 #[.pointer none, .int .i64 p] w fun e w' => e = .returned (.slice none 0 0) ∧ w = w' := by
  have hof := of_nil p w
  go_enter Try.func23, Try.ntmps23
  go_wp2_with (go_at_call 45; ((with_reducible refine hof.mono ?_); rintro e w' ⟨rfl, rfl⟩))
  go_ret
  exact ⟨rfl, rfl⟩
set_option maxHeartbeats 1000000 in
theorem matrixNil_any (p f s : Int) (w : World) : Calls Try.prog 7 #[.int .i64 p, .agg #[.int .u8 f, .int .u64 s]] w fun e w' => e = .returned (.bool true) ∧ Kept No w w' := by
  go_enter Try.func7, Try.ntmps7
  go_wp2_with (go_at_call 16; ((with_reducible refine (tell_none _ _ _ _ _ _ (of_nil _ _)).mono ?_); rintro e w1 ⟨rfl, rfl⟩))
  have c0 : (((w.alloc (.cells #[.int .u8 f, .int .u64 s] 40)).alloc (.cells #[.int .u64 1] 26)).alloc (.cells #[.int .u64 1] 26)).cell? ⟨w.heap.size, 0, none⟩ = some (.int .u8 f) := (((Kept.refl No (w.alloc (.cells #[.int .u8 f, .int .u64 s] 40))).alloc _).alloc _).cell (by simp) id
  have c1 : (((w.alloc (.cells #[.int .u8 f, .int .u64 s] 40)).alloc (.cells #[.int .u64 1] 26)).alloc (.cells #[.int .u64 1] 26)).cell? ⟨w.heap.size, 1, none⟩ = some (.int .u64 s) := (((Kept.refl No (w.alloc (.cells #[.int .u8 f, .int .u64 s] 40))).alloc _).alloc _).cell (by simp) id
  obtain ⟨w0, hw0⟩ : ∃ w0, w0 = ((w.alloc (.cells #[.int .u8 f, .int .u64 s] 40)).alloc (.cells #[.int .u64 1] 26)).alloc (.cells #[.int .u64 1] 26) := ⟨_, rfl⟩
  have HK : Hid (Kept No w w0) := by show Kept _ _ _; rw [hw0]; exact (((Kept.refl No w).alloc _).alloc _).alloc _
  rw [← hw0] at c0 c1 ⊢
  clear hw0
  have hlt : w.heap.size < w0.heap.size := World.block_lt_of_cell? w0 _ c0
  refine wp_region_plan No (.pur 0 (.pur 1 (.grow 2 (.grow 3 (.pur 4 (.pur 5 (.pur 6 (.pur 7 (.grow 8 (.pur 9 (.pur 10 (.pur 11 (.pur 12 (.pur 13 (.pur 16 (.pur 17 (.pur 21 (.pur 25 (.pur 29 (.rd 30 (.grow 14 (.rd 15 (.grow 18 (.rd 19 (.pur 20 (.grow 22 (.rd 23 (.pur 24 (.grow 26 (.rd 27 (.pur 28 (.grow 31 (.rd 32 (.pur 33 (.pur 34 (.pur 35 (.pur 36 (.pur 37 (.grow 38 (.pur 39 (.pur 40 (.pur 41 (.grow 42 (.pur 43 (.pur 44 .fin))))))))))))))))))))))))))))))))))))))))))))) [] mixed (by kernel_rfl) ?_
  repeat ((first | refine pl_pur (by simp only [List.getD_cons_succ, List.getD_cons_zero]; rfl) _ (by rfl) (fun W => by go_simp; with_reducible rfl) ?_ | refine pl_rd (by simp only [List.getD_cons_succ, List.getD_cons_zero]; rfl) _ (by rfl) (fun W hW => by have hc := kcell hW; clear hW; go_simp; with_reducible rfl) ?_); simp only [Act.put, List.setIfInBounds_toArray, List.set_cons_zero, List.set_cons_succ])
  refine pl_grow (by simp only [List.getD_cons_succ, List.getD_cons_zero]; rfl) ?_
  go_wp2
  refine GPost.mk (((Kept.refl No w0.drew)).alloc _) ?_
  refine pl_grow (by simp only [List.getD_cons_succ, List.getD_cons_zero]; rfl) ?_
  go_wp2_with (go_at_call 15; ((with_reducible refine (gone_nil1 p _ (by simp)).mono ?_); rintro e w2 ⟨rfl, rfl⟩))
  refine GPost.mk (Kept.refl No _) ?_
  repeat ((first | refine pl_pur (by simp only [List.getD_cons_succ, List.getD_cons_zero]; rfl) _ (by rfl) (fun W => by go_simp; with_reducible rfl) ?_ | refine pl_rd (by simp only [List.getD_cons_succ, List.getD_cons_zero]; rfl) _ (by rfl) (fun W hW => by have hc := kcell hW; clear hW; go_simp; with_reducible rfl) ?_); simp only [Act.put, List.setIfInBounds_toArray, List.set_cons_zero, List.set_cons_succ])
  refine pl_grow (by simp only [List.getD_cons_succ, List.getD_cons_zero]; rfl) ?_
  go_wp2_with (go_at_call 21; ((with_reducible refine (inst_nil p _).mono ?_); rintro e w2 ⟨rfl, rfl⟩))
  refine GPost.mk (Kept.refl No _) ?_
  repeat ((first | refine pl_pur (by simp only [List.getD_cons_succ, List.getD_cons_zero]; rfl) _ (by rfl) (fun W => by go_simp; with_reducible rfl) ?_ | refine pl_rd (by simp only [List.getD_cons_succ, List.getD_cons_zero]; rfl) _ (by rfl) (fun W hW => by have hc := kcell hW; clear hW; go_simp; with_reducible rfl) ?_); simp only [Act.put, List.setIfInBounds_toArray, List.set_cons_zero, List.set_cons_succ])
  refine pl_grow (by simp only [List.getD_cons_succ, List.getD_cons_zero]; rfl) ?_
  go_wp2_with (go_at_call 22; ((with_reducible refine (done_nil p _).mono ?_); rintro e w2 ⟨rfl, rfl⟩))
  refine GPost.mk (Kept.refl No _) ?_
  repeat ((first | refine pl_pur (by simp only [List.getD_cons_succ, List.getD_cons_zero]; rfl) _ (by rfl) (fun W => by go_simp; with_reducible rfl) ?_ | refine pl_rd (by simp only [List.getD_cons_succ, List.getD_cons_zero]; rfl) _ (by rfl) (fun W hW => by have hc := kcell hW; clear hW; go_simp; with_reducible rfl) ?_); simp only [Act.put, List.setIfInBounds_toArray, List.set_cons_zero, List.set_cons_succ])
  refine pl_grow (by simp only [List.getD_cons_succ, List.getD_cons_zero]; rfl) ?_
  go_wp2_with (go_at_call 23; ((with_reducible refine (held_nil p _).mono ?_); rintro e w2 ⟨rfl, rfl⟩))
  refine GPost.mk (Kept.refl No _) ?_
  repeat ((first | refine pl_pur (by simp only [List.getD_cons_succ, List.getD_cons_zero]; rfl) _ (by rfl) (fun W => by go_simp; with_reducible rfl) ?_ | refine pl_rd (by simp only [List.getD_cons_succ, List.getD_cons_zero]; rfl) _ (by rfl) (fun W hW => by have hc := kcell hW; clear hW; go_simp; with_reducible rfl) ?_); simp only [Act.put, List.setIfInBounds_toArray, List.set_cons_zero, List.set_cons_succ])
  refine pl_grow (by simp only [List.getD_cons_succ, List.getD_cons_zero]; rfl) ?_
  go_wp2_with (go_at_call 18; ((with_reducible refine (stable_nil _).mono ?_); rintro e w2 ⟨rfl, rfl⟩))
  refine GPost.mk (Kept.refl No _) ?_
  repeat ((first | refine pl_pur (by simp only [List.getD_cons_succ, List.getD_cons_zero]; rfl) _ (by rfl) (fun W => by go_simp; with_reducible rfl) ?_ | refine pl_rd (by simp only [List.getD_cons_succ, List.getD_cons_zero]; rfl) _ (by rfl) (fun W hW => by have hc := kcell hW; clear hW; go_simp; with_reducible rfl) ?_); simp only [Act.put, List.setIfInBounds_toArray, List.set_cons_zero, List.set_cons_succ])
  refine pl_grow (by simp only [List.getD_cons_succ, List.getD_cons_zero]; rfl) ?_
  go_wp2_with (go_at_call 20; ((with_reducible refine (most_nil _).mono ?_); rintro e w2 ⟨rfl, rfl⟩))
  refine GPost.mk (Kept.refl No _) ?_
  repeat ((first | refine pl_pur (by simp only [List.getD_cons_succ, List.getD_cons_zero]; rfl) _ (by rfl) (fun W => by go_simp; with_reducible rfl) ?_ | refine pl_rd (by simp only [List.getD_cons_succ, List.getD_cons_zero]; rfl) _ (by rfl) (fun W hW => by have hc := kcell hW; clear hW; go_simp; with_reducible rfl) ?_); simp only [Act.put, List.setIfInBounds_toArray, List.set_cons_zero, List.set_cons_succ])
  refine pl_grow (by simp only [List.getD_cons_succ, List.getD_cons_zero]; rfl) ?_
  go_wp2_with (go_at_call 26; ((with_reducible refine (holders_nil f s _).mono ?_); rintro e w3 ⟨rfl, hk3⟩))
  refine GPost.mk hk3 ?_
  repeat ((first | refine pl_pur (by simp only [List.getD_cons_succ, List.getD_cons_zero]; rfl) _ (by rfl) (fun W => by go_simp; with_reducible rfl) ?_ | refine pl_rd (by simp only [List.getD_cons_succ, List.getD_cons_zero]; rfl) _ (by rfl) (fun W hW => by have hc := kcell hW; clear hW; go_simp; with_reducible rfl) ?_); simp only [Act.put, List.setIfInBounds_toArray, List.set_cons_zero, List.set_cons_succ])
  refine pl_grow (by simp only [List.getD_cons_succ, List.getD_cons_zero]; rfl) ?_
  go_wp2_with (go_at_call 19; ((with_reducible refine (least_nil _).mono ?_); rintro e w2 ⟨rfl, rfl⟩))
  refine GPost.mk (Kept.refl No _) ?_
  repeat ((first | refine pl_pur (by simp only [List.getD_cons_succ, List.getD_cons_zero]; rfl) _ (by rfl) (fun W => by go_simp; with_reducible rfl) ?_ | refine pl_rd (by simp only [List.getD_cons_succ, List.getD_cons_zero]; rfl) _ (by rfl) (fun W hW => by have hc := kcell hW; clear hW; go_simp; with_reducible rfl) ?_); simp only [Act.put, List.setIfInBounds_toArray, List.set_cons_zero, List.set_cons_succ])
  refine pl_grow (by simp only [List.getD_cons_succ, List.getD_cons_zero]; rfl) ?_
  go_wp2_with (go_at_call 12; ((with_reducible refine (awake18_any _).mono ?_); rintro e w4 ⟨rfl, hk4⟩))
  refine GPost.mk hk4 ?_
  repeat ((first | refine pl_pur (by simp only [List.getD_cons_succ, List.getD_cons_zero]; rfl) _ (by rfl) (fun W => by go_simp; with_reducible rfl) ?_ | refine pl_rd (by simp only [List.getD_cons_succ, List.getD_cons_zero]; rfl) _ (by rfl) (fun W hW => by have hc := kcell hW; clear hW; go_simp; with_reducible rfl) ?_); simp only [Act.put, List.setIfInBounds_toArray, List.set_cons_zero, List.set_cons_succ])
  refine pl_fin ?_
  go_wp2
  go_ret
  exact ⟨rfl, HK.out.trans (((Kept.refl No w0).drew.alloc _).trans (hk3.trans hk4))⟩
end Go.Proofs.Ytfnecdkfhackkaa
