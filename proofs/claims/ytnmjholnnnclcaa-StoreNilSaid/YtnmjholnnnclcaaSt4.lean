/- The package store, fourth part: May, Put. -/
import Derived.Test.YtnmjholnnnclcaaSt3
set_option linter.unusedVariables false
set_option linter.unusedSimpArgs false
namespace Go.Proofs.Ytnmjholnnnclcaa
open Go.RowKit

def mayI (f s n : Int) : Bool := decide (f < min n 64) && decide (1 ≤ s) && decide (s ≤ 4611686018427387904)
theorem ret_bool {a b : Bool} (h : a = true ↔ b = true) : Ending.returned (.bool a) = .returned (.bool b) := by rw [Bool.eq_iff_iff.2 h]
theorem may_op (f s n : Int) (w : World) (h0 : 0 ≤ f) (h1 : f ≤ 255) : Calls Try.prog 24 #[.agg #[.int .u8 f, .int .u64 s], .int .i64 n] w fun e w' => e = .returned (.bool (mayI f s n)) ∧ Kept No w w' := by
  go_enter Try.func24, Try.ntmps24
  go_wp2
  all_goals
    go_ret
    refine ⟨ret_bool ?_, (Kept.refl _ _).alloc _⟩
    have : wrap64 f = f := by unfold wrap64; omega
    simp only [mayI, Bool.and_eq_true, decide_eq_true_eq, Bool.false_eq_true, false_iff]
    omega
theorem put_snil (v p : Value) (a b : Int) (w : World) : Calls Try.prog 10 #[.pointer none, .agg #[.int .u8 a, .int .u64 b], p] w fun e w' => e = .returned (.bool false) ∧ Kept No w w' := by
  go_enter Try.func10, Try.ntmps10
  go_wp2
  refine wp_region_plan No (.pur 0 (.pur 1 (.pur 2 (.pur 4 (.pur 5 (.pur 6 (.rd 3 (.rd 7 (.rd 8 (.grow 9 (.pur 10 (.pur 11 (.pur 12 (.pur 13 (.pur 15 (.pur 16 (.pur 17 (.pur 19 (.rd 14 (.rd 18 (.rd 20 (.pur 21 (.rd 22 (.pur 23 (.pur 24 (.pur 25 (.pur 26 (.rd 27 (.grow 28 (.grow 29 (.pur 30 (.pur 31 (.pur 32 (.pur 34 (.pur 35 (.pur 36 (.pur 38 (.pur 39 (.pur 40 (.rd 33 (.rd 37 (.rd 41 (.pur 42 (.pur 43 (.pur 44 .fin))))))))))))))))))))))))))))))))))))))))))))) [] mixed (by kernel_rfl) ?_
  repeat ((first | refine pl_pur (by simp only [List.getD_cons_succ, List.getD_cons_zero]; rfl) _ (by rfl) (fun W => by go_simp; with_reducible rfl) ?_ | refine pl_rd (by simp only [List.getD_cons_succ, List.getD_cons_zero]; rfl) _ (by rfl) (fun W hW => by have hc := kcell hW; clear hW; go_simp; with_reducible rfl) ?_ | refine pl_skip (by simp only [List.getD_cons_succ, List.getD_cons_zero]; rfl) (by rfl) ?_ | refine pl_skip_rd (by simp only [List.getD_cons_succ, List.getD_cons_zero]; rfl) (by rfl) ?_ | refine pl_skip_grow (by simp only [List.getD_cons_succ, List.getD_cons_zero]; rfl) (by rfl) ?_ | refine pl_skip_act (by simp only [List.getD_cons_succ, List.getD_cons_zero]; rfl) (by rfl) ?_); simp only [Act.put, List.setIfInBounds_toArray, List.set_cons_zero, List.set_cons_succ])
  refine pl_fin ?_
  go_wp2
  go_ret
  exact ⟨rfl, ((Kept.refl _ _).alloc _).drew⟩

theorem putL_none {l : PL} {q : Int × Int} {v : Value} (h : hasL l q = false) : putL q v l = l ++ [(q, v)] := by
  simp only [hasL, getL, Option.isSome_map] at h
  exact findL_none (by simpa using h)
section
variable {w : World} {sb mb fb hb n : Nat} {room used : Int} {l : PL} {fl hd : List Int}
/-- What Put says no to. -/
def Refuses (n : Nat) (room used : Int) (l : PL) (fl : List Int) (q : Int × Int) (len : Nat) : Prop :=
  mayI q.1 q.2 n = false ∨ ∃ i : Nat, q.1 = i ∧ i < n ∧ (q.2 ≤ fl.getD i 0 ∨ hasL l q = true ∨ room - used < len)

set_option maxRecDepth 20000 in
set_option maxHeartbeats 2000000 in
theorem put_may (H : StoreAt w sb mb fb hb n room used l fl hd) (a b : Int) (ha : 0 ≤ a ∧ a ≤ 255) (p : Value) (hm : mayI a b n = false) :
    Calls Try.prog 10 #[.pointer (some ⟨sb, 0, none⟩), .agg #[.int .u8 a, .int .u64 b], p] w fun e w' => e = .returned (.bool false) ∧ Kept No w w' := by
  have hk1 : Kept No w (w.alloc (.cells #[.int .u8 a, .int .u64 b] 30)).drew := ((Kept.refl _ _).alloc _).drew
  have c3 := (H.new hk1).c3
  have t0 : (w.alloc (.cells #[.int .u8 a, .int .u64 b] 30)).drew.cell? ⟨w.heap.size, 0, none⟩ = some (.int .u8 a) := by rw [World.cell?_drew]; simp
  have t1 : (w.alloc (.cells #[.int .u8 a, .int .u64 b] 30)).drew.cell? ⟨w.heap.size, 1, none⟩ = some (.int .u64 b) := by rw [World.cell?_drew]; simp
  have hM := may_op a b n (w.alloc (.cells #[.int .u8 a, .int .u64 b] 30)).drew ha.1 ha.2
  rw [hm] at hM
  have HK : Hid (Kept No w (w.alloc (.cells #[.int .u8 a, .int .u64 b] 30)).drew) := hk1
  clear H hk1 hm
  go_enter Try.func10, Try.ntmps10
  go_wp2
  refine wp_region_plan No (.pur 0 (.pur 1 (.pur 2 (.pur 4 (.pur 5 (.pur 6 (.rd 3 (.rd 7 (.rd 8 (.grow 9 (.pur 10 (.pur 11 (.pur 12 (.pur 13 (.pur 15 (.pur 16 (.pur 17 (.pur 19 (.rd 14 (.rd 18 (.rd 20 (.pur 21 (.rd 22 (.pur 23 (.pur 24 (.pur 25 (.pur 26 (.rd 27 (.grow 28 (.grow 29 (.pur 30 (.pur 31 (.pur 32 (.pur 34 (.pur 35 (.pur 36 (.pur 38 (.pur 39 (.pur 40 (.rd 33 (.rd 37 (.rd 41 (.pur 42 (.pur 43 (.pur 44 .fin))))))))))))))))))))))))))))))))))))))))))))) [] mixed (by kernel_rfl) ?_
  repeat ((first | refine pl_pur (by simp only [List.getD_cons_succ, List.getD_cons_zero]; rfl) _ (by rfl) (fun W => by go_simp; with_reducible rfl) ?_ | refine pl_rd (by simp only [List.getD_cons_succ, List.getD_cons_zero]; rfl) _ (by rfl) (fun W hW => by have hc := hW.cell (c3) id; clear hW; go_simp; with_reducible rfl) ?_); simp only [Act.put, List.setIfInBounds_toArray, List.set_cons_zero, List.set_cons_succ])
  refine pl_load_whole' (by simp only [List.getD_cons_succ, List.getD_cons_zero]; rfl) (by rfl) (.tmp 4) 30 (by rfl) w.heap.size 0 (by rfl) _ agg30 (two_cells' t0 t1) (fun h => h) ?_
  simp only [Act.put, List.setIfInBounds_toArray, List.set_cons_zero, List.set_cons_succ]
  repeat ((first | refine pl_pur (by simp only [List.getD_cons_succ, List.getD_cons_zero]; rfl) _ (by rfl) (fun W => by go_simp; with_reducible rfl) ?_ | refine pl_rd (by simp only [List.getD_cons_succ, List.getD_cons_zero]; rfl) _ (by rfl) (fun W hW => by have hc := hW.cell (c3) id; clear hW; go_simp; with_reducible rfl) ?_); simp only [Act.put, List.setIfInBounds_toArray, List.set_cons_zero, List.set_cons_succ])
  refine pl_grow (by simp only [List.getD_cons_succ, List.getD_cons_zero]; rfl) ?_
  go_wp2_with (go_at_call 24; ((with_reducible refine hM.mono ?_); rintro e w2 ⟨rfl, hk2⟩))
  refine GPost.mk hk2 ?_
  repeat ((first | refine pl_pur (by simp only [List.getD_cons_succ, List.getD_cons_zero]; rfl) _ (by rfl) (fun W => by go_simp; with_reducible rfl) ?_ | refine pl_rd (by simp only [List.getD_cons_succ, List.getD_cons_zero]; rfl) _ (by rfl) (fun W hW => by have hc := kcell hW; clear hW; go_simp; with_reducible rfl) ?_ | refine pl_skip (by simp only [List.getD_cons_succ, List.getD_cons_zero]; rfl) (by rfl) ?_ | refine pl_skip_rd (by simp only [List.getD_cons_succ, List.getD_cons_zero]; rfl) (by rfl) ?_ | refine pl_skip_grow (by simp only [List.getD_cons_succ, List.getD_cons_zero]; rfl) (by rfl) ?_ | refine pl_skip_act (by simp only [List.getD_cons_succ, List.getD_cons_zero]; rfl) (by rfl) ?_); simp only [Act.put, List.setIfInBounds_toArray, List.set_cons_zero, List.set_cons_succ])
  refine pl_fin ?_
  go_wp2
  go_ret
  exact ⟨rfl, HK.out.trans hk2⟩
set_option maxRecDepth 20000 in
set_option maxHeartbeats 2000000 in
theorem put_low (H : StoreAt w sb mb fb hb n room used l fl hd) (i : Nat) (b y : Int) (hi : i < n) (p : Value) (hm : mayI i b n = true) (hy : fl[i]? = some y) (hle : b ≤ y) :
    Calls Try.prog 10 #[.pointer (some ⟨sb, 0, none⟩), .agg #[.int .u8 i, .int .u64 b], p] w fun e w' => e = .returned (.bool false) ∧ Kept No w w' := by
  have hn2 := H.n2
  have hk1 : Kept No w (w.alloc (.cells #[.int .u8 i, .int .u64 b] 30)).drew := ((Kept.refl _ _).alloc _).drew
  have c3 := (H.new hk1).c3
  have t0 : (w.alloc (.cells #[.int .u8 i, .int .u64 b] 30)).drew.cell? ⟨w.heap.size, 0, none⟩ = some (.int .u8 i) := by rw [World.cell?_drew]; simp
  have t1 : (w.alloc (.cells #[.int .u8 i, .int .u64 b] 30)).drew.cell? ⟨w.heap.size, 1, none⟩ = some (.int .u64 b) := by rw [World.cell?_drew]; simp
  have hM := may_op i b n (w.alloc (.cells #[.int .u8 i, .int .u64 b] 30)).drew (by omega) (by omega)
  rw [hm] at hM
  have HK : Hid (Kept No w (w.alloc (.cells #[.int .u8 i, .int .u64 b] 30)).drew ∧ StoreAt (w.alloc (.cells #[.int .u8 i, .int .u64 b] 30)).drew sb mb fb hb n room used l fl hd ∧ fl[i]? = some y) := ⟨hk1, H.new hk1, hy⟩
  have hii : (i : Int) < (n : Int) := by omega
  clear H hk1 hm hy hn2
  go_enter Try.func10, Try.ntmps10
  go_wp2
  refine wp_region_plan No (.pur 0 (.pur 1 (.pur 2 (.pur 4 (.pur 5 (.pur 6 (.rd 3 (.rd 7 (.rd 8 (.grow 9 (.pur 10 (.pur 11 (.pur 12 (.pur 13 (.pur 15 (.pur 16 (.pur 17 (.pur 19 (.rd 14 (.rd 18 (.rd 20 (.pur 21 (.rd 22 (.pur 23 (.pur 24 (.pur 25 (.pur 26 (.rd 27 (.grow 28 (.grow 29 (.pur 30 (.pur 31 (.pur 32 (.pur 34 (.pur 35 (.pur 36 (.pur 38 (.pur 39 (.pur 40 (.rd 33 (.rd 37 (.rd 41 (.pur 42 (.pur 43 (.pur 44 .fin))))))))))))))))))))))))))))))))))))))))))))) [] mixed (by kernel_rfl) ?_
  repeat ((first | refine pl_pur (by simp only [List.getD_cons_succ, List.getD_cons_zero]; rfl) _ (by rfl) (fun W => by go_simp; with_reducible rfl) ?_ | refine pl_rd (by simp only [List.getD_cons_succ, List.getD_cons_zero]; rfl) _ (by rfl) (fun W hW => by have hc := hW.cell (c3) id; clear hW; go_simp; with_reducible rfl) ?_); simp only [Act.put, List.setIfInBounds_toArray, List.set_cons_zero, List.set_cons_succ])
  refine pl_load_whole' (by simp only [List.getD_cons_succ, List.getD_cons_zero]; rfl) (by rfl) (.tmp 4) 30 (by rfl) w.heap.size 0 (by rfl) _ agg30 (two_cells' t0 t1) (fun h => h) ?_
  simp only [Act.put, List.setIfInBounds_toArray, List.set_cons_zero, List.set_cons_succ]
  repeat ((first | refine pl_pur (by simp only [List.getD_cons_succ, List.getD_cons_zero]; rfl) _ (by rfl) (fun W => by go_simp; with_reducible rfl) ?_ | refine pl_rd (by simp only [List.getD_cons_succ, List.getD_cons_zero]; rfl) _ (by rfl) (fun W hW => by have hc := hW.cell (c3) id; clear hW; go_simp; with_reducible rfl) ?_); simp only [Act.put, List.setIfInBounds_toArray, List.set_cons_zero, List.set_cons_succ])
  refine pl_grow (by simp only [List.getD_cons_succ, List.getD_cons_zero]; rfl) ?_
  go_wp2_with (go_at_call 24; ((with_reducible refine hM.mono ?_); rintro e w2 ⟨rfl, hk2⟩; have H2 := HK.out.2.1.new hk2; have c3' := H2.c3; have dy := H2.f.cell HK.out.2.2; have t0' := hk2.cell t0 id; have t1' := hk2.cell t1 id; clear H2 c3 t0 t1))
  refine GPost.mk hk2 ?_
  repeat ((first | refine pl_pur (by simp only [List.getD_cons_succ, List.getD_cons_zero]; rfl) _ (by rfl) (fun W => by go_simp; with_reducible rfl) ?_ | refine pl_rd (by simp only [List.getD_cons_succ, List.getD_cons_zero]; rfl) _ (by rfl) (fun W hW => by have hc := hW.cell (c3') id; clear hW; go_simp; with_reducible rfl) ?_ | refine pl_rd (by simp only [List.getD_cons_succ, List.getD_cons_zero]; rfl) _ (by rfl) (fun W hW => by have hc := hW.cell (dy) id; clear hW; go_simp; with_reducible rfl) ?_ | refine pl_rd (by simp only [List.getD_cons_succ, List.getD_cons_zero]; rfl) _ (by rfl) (fun W hW => by have hc := hW.cell (t0') id; clear hW; go_simp; with_reducible rfl) ?_ | refine pl_rd (by simp only [List.getD_cons_succ, List.getD_cons_zero]; rfl) _ (by rfl) (fun W hW => by have hc := hW.cell (t1') id; clear hW; go_simp; with_reducible rfl) ?_ | refine pl_skip (by simp only [List.getD_cons_succ, List.getD_cons_zero]; rfl) (by rfl) ?_ | refine pl_skip_rd (by simp only [List.getD_cons_succ, List.getD_cons_zero]; rfl) (by rfl) ?_ | refine pl_skip_grow (by simp only [List.getD_cons_succ, List.getD_cons_zero]; rfl) (by rfl) ?_ | refine pl_skip_act (by simp only [List.getD_cons_succ, List.getD_cons_zero]; rfl) (by rfl) ?_); simp only [Act.put, List.setIfInBounds_toArray, List.set_cons_zero, List.set_cons_succ])
  refine pl_fin ?_
  go_wp2
  go_ret
  exact ⟨rfl, HK.out.1.trans hk2⟩
end
end Go.Proofs.Ytnmjholnnnclcaa
