/- The package pull, third part: New, lacks. -/
import Derived.Test.YtfnecdkfhackkaaPul2
set_option linter.unusedVariables false
set_option linter.unusedSimpArgs false
namespace Go.Proofs.Ytfnecdkfhackkaa
open Go.RowKit

/-- A puller of two that wants nothing. -/
def Puller0 (w : World) (px : Nat) (a : Int) : Prop := w.heap[px]? = some (.cells #[.int .i64 2, .int .i64 0, .int .i64 a, .pointer none, .int .i64 1, .int .i64 0, .int .u64 0] 92 (0, 0))
theorem pnew_1 (w : World) : Calls Try.prog 38 #[.int .i64 2, .int .i64 0, .int .i64 1] w fun e w' => ∃ px, e = .returned (.pointer (some ⟨px, 0, none⟩)) ∧ Puller0 w' px 1 ∧ Kept No w w' ∧ w.heap.size ≤ px := by
  go_enter Try.func38, Try.ntmps38
  go_wp2
  go_ret
  exact ⟨_, rfl, heap_alloc_new _ _, (Kept.refl _ _).alloc _, Nat.le_refl _⟩
theorem pnew_2 (w : World) : Calls Try.prog 38 #[.int .i64 2, .int .i64 0, .int .i64 2] w fun e w' => ∃ px, e = .returned (.pointer (some ⟨px, 0, none⟩)) ∧ Puller0 w' px 2 ∧ Kept No w w' ∧ w.heap.size ≤ px := by
  go_enter Try.func38, Try.ntmps38
  go_wp2
  go_ret
  exact ⟨_, rfl, heap_alloc_new _ _, (Kept.refl _ _).alloc _, Nat.le_refl _⟩

theorem agg40' {a b : Value} : Agg Try.prog 40 [a, b].length := Agg.mk' Try.underlying40 rfl (by kernel_rfl)
set_option maxRecDepth 20000 in
theorem lacks_false (px f : Nat) (hf : f < 2) (s a : Int) (hs : IntKind.u64.wrap (a + 1) = s) (hv mp : Value) (w : World) (hn : w.cell? ⟨px, 0, none⟩ = some (.int .i64 2))
    (hAt : Hid (∀ W, Kept No w W → Calls Try.prog 71 #[hv, .int .i64 f] W fun e w' => e = .returned (.int .u64 a) ∧ W = w'))
    (hH : Hid (∀ W, Kept No w W → Calls Try.prog 58 #[.pointer (some ⟨px, 0, none⟩), .agg #[.int .u8 f, .int .u64 s], mp, .slice none 0 0] W fun e w' => ∃ A c, e = .returned (.slice A 0 c) ∧ Kept No W w')) :
    Calls Try.prog 56 #[.pointer (some ⟨px, 0, none⟩), .agg #[.int .u8 f, .int .u64 s], hv, mp, .slice none 0 0] w fun e w' => e = .returned (.bool false) ∧ Kept No w w' := by
  have hw1 : IntKind.i64.wrap (f : Int) = (f : Int) := by rw [IntKind.wrap_i64]; omega
  have hff : (f : Int) < 2 := by omega
  have hk0 : Kept No w (w.alloc (.cells #[.int .u8 f, .int .u64 s] 40)).drew := ((Kept.refl _ _).alloc _).drew
  have c0 : (w.alloc (.cells #[.int .u8 f, .int .u64 s] 40)).drew.cell? ⟨w.heap.size, 0, none⟩ = some (.int .u8 f) := by rw [World.cell?_drew]; simp
  have c1 : (w.alloc (.cells #[.int .u8 f, .int .u64 s] 40)).drew.cell? ⟨w.heap.size, 1, none⟩ = some (.int .u64 s) := by rw [World.cell?_drew]; simp
  have n0 := hk0.cell hn id
  have HC : Hid (∀ i u, [Value.int .u8 f, .int .u64 s][i]? = some u → (w.alloc (.cells #[.int .u8 f, .int .u64 s] 40)).drew.cell? ⟨w.heap.size, 0 + i, none⟩ = some u) := by
    intro i u hu
    match i with
    | 0 => have e : Value.int .u8 f = u := by simpa using hu
           subst e; exact c0
    | 1 => have e : Value.int .u64 s = u := by simpa using hu
           subst e; exact c1
    | i + 2 => simp at hu
  have HK : Hid (Kept No w (w.alloc (.cells #[.int .u8 f, .int .u64 s] 40)).drew) := hk0
  clear hk0
  go_enter Try.func56, Try.ntmps56
  go_wp2
  refine wp_region_plan No (.pur 0 (.pur 3 (.pur 4 (.pur 5 (.rd 1 (.pur 2 (.rd 6 (.pur 7 (.pur 8 (.pur 9 (.pur 10 (.pur 15 (.rd 11 (.pur 12 (.rd 16 (.grow 13 (.pur 14 (.pur 17 (.pur 18 (.pur 19 (.pur 20 (.pur 22 (.pur 23 (.rd 21 (.grow 24 (.pur 25 (.pur 26 (.pur 27 (.pur 28 .fin))))))))))))))))))))))))))))) [] mixed (by kernel_rfl) ?_
  repeat ((first | refine pl_pur (by simp only [List.getD_cons_succ, List.getD_cons_zero]; rfl) _ (by rfl) (fun W => by go_simp; with_reducible rfl) ?_ | refine pl_rd (by simp only [List.getD_cons_succ, List.getD_cons_zero]; rfl) _ (by rfl) (fun W hW => by have hc := hW.cell (c0) id; clear hW; go_simp; with_reducible rfl) ?_ | refine pl_rd (by simp only [List.getD_cons_succ, List.getD_cons_zero]; rfl) _ (by rfl) (fun W hW => by have hc := hW.cell (c1) id; clear hW; go_simp; with_reducible rfl) ?_ | refine pl_rd (by simp only [List.getD_cons_succ, List.getD_cons_zero]; rfl) _ (by rfl) (fun W hW => by have hc := hW.cell (n0) id; clear hW; go_simp; with_reducible rfl) ?_); simp only [Act.put, List.setIfInBounds_toArray, List.set_cons_zero, List.set_cons_succ])
  refine pl_grow (by simp only [List.getD_cons_succ, List.getD_cons_zero]; rfl) ?_
  go_wp2_with (go_at_call 71; go_loud ((with_reducible refine (hAt.out _ HK.out).mono ?_); rintro e w1 ⟨rfl, rfl⟩))
  refine GPost.mk (Kept.refl _ _) ?_
  repeat ((first | refine pl_pur (by simp only [List.getD_cons_succ, List.getD_cons_zero]; rfl) _ (by rfl) (fun W => by go_simp; with_reducible rfl) ?_ | refine pl_rd (by simp only [List.getD_cons_succ, List.getD_cons_zero]; rfl) _ (by rfl) (fun W hW => by have hc := kcell hW; clear hW; go_simp; with_reducible rfl) ?_); simp only [Act.put, List.setIfInBounds_toArray, List.set_cons_zero, List.set_cons_succ])
  refine pl_grow (by simp only [List.getD_cons_succ, List.getD_cons_zero]; rfl) ?_
  go_wp2_with (go_at_call 58; go_loud ((with_reducible refine (hH.out _ HK.out).mono ?_); rintro e w2 ⟨A, c, rfl, hk2⟩))
  refine GPost.mk hk2 ?_
  repeat ((first | refine pl_pur (by simp only [List.getD_cons_succ, List.getD_cons_zero]; rfl) _ (by rfl) (fun W => by go_simp; with_reducible rfl) ?_ | refine pl_rd (by simp only [List.getD_cons_succ, List.getD_cons_zero]; rfl) _ (by rfl) (fun W hW => by have hc := kcell hW; clear hW; go_simp; with_reducible rfl) ?_); simp only [Act.put, List.setIfInBounds_toArray, List.set_cons_zero, List.set_cons_succ])
  refine pl_fin ?_
  go_wp2
  go_ret
  exact ⟨rfl, HK.out.trans hk2⟩
set_option maxRecDepth 20000 in
theorem lacks_true (px f : Nat) (hf : f < 2) (s a : Int) (hs : IntKind.u64.wrap (a + 1) = s) (hv mp : Value) (w : World) (hn : w.cell? ⟨px, 0, none⟩ = some (.int .i64 2))
    (hAt : Hid (∀ W, Kept No w W → Calls Try.prog 71 #[hv, .int .i64 f] W fun e w' => e = .returned (.int .u64 a) ∧ W = w'))
    (hH : Hid (∀ W, Kept No w W → Calls Try.prog 58 #[.pointer (some ⟨px, 0, none⟩), .agg #[.int .u8 f, .int .u64 s], mp, .slice none 0 0] W fun e w' => ∃ A c, e = .returned (.slice A 1 c) ∧ Kept No W w')) :
    Calls Try.prog 56 #[.pointer (some ⟨px, 0, none⟩), .agg #[.int .u8 f, .int .u64 s], hv, mp, .slice none 0 0] w fun e w' => e = .returned (.bool true) ∧ Kept No w w' := by
  have hw1 : IntKind.i64.wrap (f : Int) = (f : Int) := by rw [IntKind.wrap_i64]; omega
  have hff : (f : Int) < 2 := by omega
  have hk0 : Kept No w (w.alloc (.cells #[.int .u8 f, .int .u64 s] 40)).drew := ((Kept.refl _ _).alloc _).drew
  have c0 : (w.alloc (.cells #[.int .u8 f, .int .u64 s] 40)).drew.cell? ⟨w.heap.size, 0, none⟩ = some (.int .u8 f) := by rw [World.cell?_drew]; simp
  have c1 : (w.alloc (.cells #[.int .u8 f, .int .u64 s] 40)).drew.cell? ⟨w.heap.size, 1, none⟩ = some (.int .u64 s) := by rw [World.cell?_drew]; simp
  have n0 := hk0.cell hn id
  have HC : Hid (∀ i u, [Value.int .u8 f, .int .u64 s][i]? = some u → (w.alloc (.cells #[.int .u8 f, .int .u64 s] 40)).drew.cell? ⟨w.heap.size, 0 + i, none⟩ = some u) := by
    intro i u hu
    match i with
    | 0 => have e : Value.int .u8 f = u := by simpa using hu
           subst e; exact c0
    | 1 => have e : Value.int .u64 s = u := by simpa using hu
           subst e; exact c1
    | i + 2 => simp at hu
  have HK : Hid (Kept No w (w.alloc (.cells #[.int .u8 f, .int .u64 s] 40)).drew) := hk0
  clear hk0
  go_enter Try.func56, Try.ntmps56
  go_wp2
  refine wp_region_plan No (.pur 0 (.pur 3 (.pur 4 (.pur 5 (.rd 1 (.pur 2 (.rd 6 (.pur 7 (.pur 8 (.pur 9 (.pur 10 (.pur 15 (.rd 11 (.pur 12 (.rd 16 (.grow 13 (.pur 14 (.pur 17 (.pur 18 (.pur 19 (.pur 20 (.pur 22 (.pur 23 (.rd 21 (.grow 24 (.pur 25 (.pur 26 (.pur 27 (.pur 28 .fin))))))))))))))))))))))))))))) [] mixed (by kernel_rfl) ?_
  repeat ((first | refine pl_pur (by simp only [List.getD_cons_succ, List.getD_cons_zero]; rfl) _ (by rfl) (fun W => by go_simp; with_reducible rfl) ?_ | refine pl_rd (by simp only [List.getD_cons_succ, List.getD_cons_zero]; rfl) _ (by rfl) (fun W hW => by have hc := hW.cell (c0) id; clear hW; go_simp; with_reducible rfl) ?_ | refine pl_rd (by simp only [List.getD_cons_succ, List.getD_cons_zero]; rfl) _ (by rfl) (fun W hW => by have hc := hW.cell (c1) id; clear hW; go_simp; with_reducible rfl) ?_ | refine pl_rd (by simp only [List.getD_cons_succ, List.getD_cons_zero]; rfl) _ (by rfl) (fun W hW => by have hc := hW.cell (n0) id; clear hW; go_simp; with_reducible rfl) ?_); simp only [Act.put, List.setIfInBounds_toArray, List.set_cons_zero, List.set_cons_succ])
  refine pl_grow (by simp only [List.getD_cons_succ, List.getD_cons_zero]; rfl) ?_
  go_wp2_with (go_at_call 71; go_loud ((with_reducible refine (hAt.out _ HK.out).mono ?_); rintro e w1 ⟨rfl, rfl⟩))
  refine GPost.mk (Kept.refl _ _) ?_
  repeat ((first | refine pl_pur (by simp only [List.getD_cons_succ, List.getD_cons_zero]; rfl) _ (by rfl) (fun W => by go_simp; with_reducible rfl) ?_ | refine pl_rd (by simp only [List.getD_cons_succ, List.getD_cons_zero]; rfl) _ (by rfl) (fun W hW => by have hc := kcell hW; clear hW; go_simp; with_reducible rfl) ?_); simp only [Act.put, List.setIfInBounds_toArray, List.set_cons_zero, List.set_cons_succ])
  refine pl_grow (by simp only [List.getD_cons_succ, List.getD_cons_zero]; rfl) ?_
  go_wp2_with (go_at_call 58; go_loud ((with_reducible refine (hH.out _ HK.out).mono ?_); rintro e w2 ⟨A, c, rfl, hk2⟩))
  refine GPost.mk hk2 ?_
  repeat ((first | refine pl_pur (by simp only [List.getD_cons_succ, List.getD_cons_zero]; rfl) _ (by rfl) (fun W => by go_simp; with_reducible rfl) ?_ | refine pl_rd (by simp only [List.getD_cons_succ, List.getD_cons_zero]; rfl) _ (by rfl) (fun W hW => by have hc := kcell hW; clear hW; go_simp; with_reducible rfl) ?_); simp only [Act.put, List.setIfInBounds_toArray, List.set_cons_zero, List.set_cons_succ])
  refine pl_fin ?_
  go_wp2
  go_ret
  exact ⟨rfl, HK.out.trans hk2⟩
end Go.Proofs.Ytfnecdkfhackkaa
