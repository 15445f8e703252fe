/- The package store, fifth part: Put. -/
import Derived.Test.YtnmjholnnnclcaaSt4
set_option linter.unusedVariables false
set_option linter.unusedSimpArgs false
namespace Go.Proofs.Ytnmjholnnnclcaa
open Go.RowKit
section
variable {w : World} {sb mb fb hb n : Nat} {room used : Int} {l : PL} {fl hd : List Int}
set_option maxRecDepth 20000 in
set_option maxHeartbeats 4000000 in
theorem put_has (H : StoreAt w sb mb fb hb n room used l fl hd) (i : Nat) (b y : Int) (hi : i < n) (m : Nat) (A : Option Addr) (c : Nat) (hm : mayI i b n = true) (hy : fl[i]? = some y) (hle : ¬ b ≤ y) (hB : hasL l ((i : Int), b) = true) :
    Calls Try.prog 10 #[.pointer (some ⟨sb, 0, none⟩), .agg #[.int .u8 i, .int .u64 b], .slice A m c] w fun e w' => e = .returned (.bool false) ∧ Kept No w w' := by
  have hn2 := H.n2
  have hk1 : Kept No w (w.alloc (.cells #[.int .u8 i, .int .u64 b] 30)).drew := ((Kept.refl _ _).alloc _).drew
  have c3 := (H.new hk1).c3
  have t0 : (w.alloc (.cells #[.int .u8 i, .int .u64 b] 30)).drew.cell? ⟨w.heap.size, 0, none⟩ = some (.int .u8 i) := by rw [World.cell?_drew]; simp
  have t1 : (w.alloc (.cells #[.int .u8 i, .int .u64 b] 30)).drew.cell? ⟨w.heap.size, 1, none⟩ = some (.int .u64 b) := by rw [World.cell?_drew]; simp
  have hM := may_op i b n (w.alloc (.cells #[.int .u8 i, .int .u64 b] 30)).drew (by omega) (by omega)
  rw [hm] at hM
  have HK : Hid (Kept No w (w.alloc (.cells #[.int .u8 i, .int .u64 b] 30)).drew ∧ StoreAt (w.alloc (.cells #[.int .u8 i, .int .u64 b] 30)).drew sb mb fb hb n room used l fl hd ∧ fl[i]? = some y) := ⟨hk1, H.new hk1, hy⟩
  have hii : (i : Int) < (n : Int) := by omega
  have hdec : decide (b ≤ y) = false := decide_eq_false hle
  clear H hk1 hm hy hn2
  go_enter Try.func10, Try.ntmps10
  go_wp2
  refine wp_region_plan No (.pur 0 (.pur 1 (.pur 2 (.pur 4 (.pur 5 (.pur 6 (.rd 3 (.rd 7 (.rd 8 (.grow 9 (.pur 10 (.pur 11 (.pur 12 (.pur 13 (.pur 15 (.pur 16 (.pur 17 (.pur 19 (.rd 14 (.rd 18 (.rd 20 (.pur 21 (.rd 22 (.pur 23 (.pur 24 (.pur 25 (.pur 26 (.rd 27 (.grow 28 (.grow 29 (.pur 30 (.pur 31 (.pur 32 (.pur 34 (.pur 35 (.pur 36 (.pur 38 (.pur 39 (.pur 40 (.rd 33 (.rd 37 (.rd 41 (.pur 42 (.pur 43 (.pur 44 .fin))))))))))))))))))))))))))))))))))))))))))))) [] mixed (by kernel_rfl) ?_
  repeat ((first | refine pl_pur (by simp only [List.getD_cons_succ, List.getD_cons_zero]; rfl) _ (by rfl) (fun W => by go_simp; with_reducible rfl) ?_ | refine pl_rd (by simp only [List.getD_cons_succ, List.getD_cons_zero]; rfl) _ (by rfl) (fun W hW => by have hc := hW.cell (c3) id; clear hW; go_simp; with_reducible rfl) ?_); simp only [Act.put, List.setIfInBounds_toArray, List.set_cons_zero, List.set_cons_succ])
  refine pl_load_whole' (by simp only [List.getD_cons_succ, List.getD_cons_zero]; rfl) (by rfl) (.tmp 4) 30 (by rfl) w.heap.size 0 (by rfl) _ agg30 (two_cells' t0 t1) (fun h => h) ?_
  simp only [Act.put, List.setIfInBounds_toArray, List.set_cons_zero, List.set_cons_succ]
  repeat ((first | refine pl_pur (by simp only [List.getD_cons_succ, List.getD_cons_zero]; rfl) _ (by rfl) (fun W => by go_simp; with_reducible rfl) ?_ | refine pl_rd (by simp only [List.getD_cons_succ, List.getD_cons_zero]; rfl) _ (by rfl) (fun W hW => by have hc := hW.cell (c3) id; clear hW; go_simp; with_reducible rfl) ?_); simp only [Act.put, List.setIfInBounds_toArray, List.set_cons_zero, List.set_cons_succ])
  refine pl_grow (by simp only [List.getD_cons_succ, List.getD_cons_zero]; rfl) ?_
  go_wp2_with (go_at_call 24; ((with_reducible refine hM.mono ?_); rintro e w2 ⟨rfl, hk2⟩; have H2 := HK.out.2.1.new hk2; have c3' := H2.c3; have dy := H2.f.cell HK.out.2.2; have t0' := hk2.cell t0 id; have t1' := hk2.cell t1 id; clear c3 t0 t1))
  refine GPost.mk hk2 ?_
  repeat ((first | refine pl_pur (by simp only [List.getD_cons_succ, List.getD_cons_zero]; rfl) _ (by rfl) (fun W => by go_simp; with_reducible rfl) ?_ | refine pl_rd (by simp only [List.getD_cons_succ, List.getD_cons_zero]; rfl) _ (by rfl) (fun W hW => by have hc := hW.cell (c3') id; clear hW; go_simp; with_reducible rfl) ?_ | refine pl_rd (by simp only [List.getD_cons_succ, List.getD_cons_zero]; rfl) _ (by rfl) (fun W hW => by have hc := hW.cell (dy) id; clear hW; go_simp; with_reducible rfl) ?_ | refine pl_rd (by simp only [List.getD_cons_succ, List.getD_cons_zero]; rfl) _ (by rfl) (fun W hW => by have hc := hW.cell (t0') id; clear hW; go_simp; with_reducible rfl) ?_ | refine pl_rd (by simp only [List.getD_cons_succ, List.getD_cons_zero]; rfl) _ (by rfl) (fun W hW => by have hc := hW.cell (t1') id; clear hW; go_simp; with_reducible rfl) ?_); simp only [Act.put, List.setIfInBounds_toArray, List.set_cons_zero, List.set_cons_succ])
  refine pl_load_whole' (by simp only [List.getD_cons_succ, List.getD_cons_zero]; rfl) (by rfl) (.tmp 4) 30 (by rfl) w.heap.size 0 (by rfl) _ agg30 (two_cells' t0' t1') (fun h => h) ?_
  simp only [Act.put, List.setIfInBounds_toArray, List.set_cons_zero, List.set_cons_succ]
  have ka : Kept No w2 (w2.alloc (.cells #[.int .u8 i, .int .u64 b] 30)) := (Kept.refl _ _).alloc _
  have HA := has_any sb mb w2.heap.size l ((i : Int), b) (w2.alloc (.cells #[.int .u8 i, .int .u64 b] 30)) (H2.new ka).c2 (H2.new ka).m (by simp) (by simp)
  rw [show (getL l ((i : Int), b)).isSome = true from hB] at HA
  have HZ : Hid (Kept No w w2 ∧ StoreAt w2 sb mb fb hb n room used l fl hd ∧ w2.cell? ⟨w.heap.size, 0, none⟩ = some (.int .u8 i) ∧ w2.cell? ⟨w.heap.size, 1, none⟩ = some (.int .u64 b)) := ⟨HK.out.1.trans hk2, H2, t0', t1'⟩
  clear H2 ka c3' dy t0' t1' hk2 HK hM
  refine pl_grow (by simp only [List.getD_cons_succ, List.getD_cons_zero]; rfl) ?_
  go_wp2
  refine GPost.mk ((Kept.refl _ _).alloc _) ?_
  refine pl_grow (by simp only [List.getD_cons_succ, List.getD_cons_zero]; rfl) ?_
  go_wp2_with (go_at_call 14; ((with_reducible refine HA.mono ?_); rintro e w3 ⟨rfl, hk3⟩; have k23 := ((Kept.refl No w2).alloc (.cells #[.int .u8 i, .int .u64 b] 30)).trans hk3; have H3 := HZ.out.2.1.new k23; have d0 := H3.c0; have d1 := H3.c1))
  refine GPost.mk hk3 ?_
  repeat ((first | refine pl_pur (by simp only [List.getD_cons_succ, List.getD_cons_zero]; rfl) _ (by rfl) (fun W => by go_simp; with_reducible rfl) ?_ | refine pl_rd (by simp only [List.getD_cons_succ, List.getD_cons_zero]; rfl) _ (by rfl) (fun W hW => by have hc := kcell hW; clear hW; go_simp; with_reducible rfl) ?_ | refine pl_skip (by simp only [List.getD_cons_succ, List.getD_cons_zero]; rfl) (by rfl) ?_ | refine pl_skip_rd (by simp only [List.getD_cons_succ, List.getD_cons_zero]; rfl) (by rfl) ?_ | refine pl_skip_grow (by simp only [List.getD_cons_succ, List.getD_cons_zero]; rfl) (by rfl) ?_ | refine pl_skip_act (by simp only [List.getD_cons_succ, List.getD_cons_zero]; rfl) (by rfl) ?_); simp only [Act.put, List.setIfInBounds_toArray, List.set_cons_zero, List.set_cons_succ])
  refine pl_fin ?_
  go_wp2
  go_ret
  exact ⟨rfl, HZ.out.1.trans k23⟩
set_option maxRecDepth 20000 in
set_option maxHeartbeats 4000000 in
theorem put_big (H : StoreAt w sb mb fb hb n room used l fl hd) (i : Nat) (b y : Int) (hi : i < n) (m : Nat) (A : Option Addr) (c : Nat) (hm : mayI i b n = true) (hy : fl[i]? = some y) (hle : ¬ b ≤ y) (hB : hasL l ((i : Int), b) = false) (hw : IntKind.i64.wrap (room - used) = room - used) (hbig : room - used < m) :
    Calls Try.prog 10 #[.pointer (some ⟨sb, 0, none⟩), .agg #[.int .u8 i, .int .u64 b], .slice A m c] w fun e w' => e = .returned (.bool false) ∧ Kept No w w' := by
  have hn2 := H.n2
  have hk1 : Kept No w (w.alloc (.cells #[.int .u8 i, .int .u64 b] 30)).drew := ((Kept.refl _ _).alloc _).drew
  have c3 := (H.new hk1).c3
  have t0 : (w.alloc (.cells #[.int .u8 i, .int .u64 b] 30)).drew.cell? ⟨w.heap.size, 0, none⟩ = some (.int .u8 i) := by rw [World.cell?_drew]; simp
  have t1 : (w.alloc (.cells #[.int .u8 i, .int .u64 b] 30)).drew.cell? ⟨w.heap.size, 1, none⟩ = some (.int .u64 b) := by rw [World.cell?_drew]; simp
  have hM := may_op i b n (w.alloc (.cells #[.int .u8 i, .int .u64 b] 30)).drew (by omega) (by omega)
  rw [hm] at hM
  have HK : Hid (Kept No w (w.alloc (.cells #[.int .u8 i, .int .u64 b] 30)).drew ∧ StoreAt (w.alloc (.cells #[.int .u8 i, .int .u64 b] 30)).drew sb mb fb hb n room used l fl hd ∧ fl[i]? = some y) := ⟨hk1, H.new hk1, hy⟩
  have hii : (i : Int) < (n : Int) := by omega
  have hdec : decide (b ≤ y) = false := decide_eq_false hle
  clear H hk1 hm hy hn2
  go_enter Try.func10, Try.ntmps10
  go_wp2
  refine wp_region_plan No (.pur 0 (.pur 1 (.pur 2 (.pur 4 (.pur 5 (.pur 6 (.rd 3 (.rd 7 (.rd 8 (.grow 9 (.pur 10 (.pur 11 (.pur 12 (.pur 13 (.pur 15 (.pur 16 (.pur 17 (.pur 19 (.rd 14 (.rd 18 (.rd 20 (.pur 21 (.rd 22 (.pur 23 (.pur 24 (.pur 25 (.pur 26 (.rd 27 (.grow 28 (.grow 29 (.pur 30 (.pur 31 (.pur 32 (.pur 34 (.pur 35 (.pur 36 (.pur 38 (.pur 39 (.pur 40 (.rd 33 (.rd 37 (.rd 41 (.pur 42 (.pur 43 (.pur 44 .fin))))))))))))))))))))))))))))))))))))))))))))) [] mixed (by kernel_rfl) ?_
  repeat ((first | refine pl_pur (by simp only [List.getD_cons_succ, List.getD_cons_zero]; rfl) _ (by rfl) (fun W => by go_simp; with_reducible rfl) ?_ | refine pl_rd (by simp only [List.getD_cons_succ, List.getD_cons_zero]; rfl) _ (by rfl) (fun W hW => by have hc := hW.cell (c3) id; clear hW; go_simp; with_reducible rfl) ?_); simp only [Act.put, List.setIfInBounds_toArray, List.set_cons_zero, List.set_cons_succ])
  refine pl_load_whole' (by simp only [List.getD_cons_succ, List.getD_cons_zero]; rfl) (by rfl) (.tmp 4) 30 (by rfl) w.heap.size 0 (by rfl) _ agg30 (two_cells' t0 t1) (fun h => h) ?_
  simp only [Act.put, List.setIfInBounds_toArray, List.set_cons_zero, List.set_cons_succ]
  repeat ((first | refine pl_pur (by simp only [List.getD_cons_succ, List.getD_cons_zero]; rfl) _ (by rfl) (fun W => by go_simp; with_reducible rfl) ?_ | refine pl_rd (by simp only [List.getD_cons_succ, List.getD_cons_zero]; rfl) _ (by rfl) (fun W hW => by have hc := hW.cell (c3) id; clear hW; go_simp; with_reducible rfl) ?_); simp only [Act.put, List.setIfInBounds_toArray, List.set_cons_zero, List.set_cons_succ])
  refine pl_grow (by simp only [List.getD_cons_succ, List.getD_cons_zero]; rfl) ?_
  go_wp2_with (go_at_call 24; ((with_reducible refine hM.mono ?_); rintro e w2 ⟨rfl, hk2⟩; have H2 := HK.out.2.1.new hk2; have c3' := H2.c3; have dy := H2.f.cell HK.out.2.2; have t0' := hk2.cell t0 id; have t1' := hk2.cell t1 id; clear c3 t0 t1))
  refine GPost.mk hk2 ?_
  repeat ((first | refine pl_pur (by simp only [List.getD_cons_succ, List.getD_cons_zero]; rfl) _ (by rfl) (fun W => by go_simp; with_reducible rfl) ?_ | refine pl_rd (by simp only [List.getD_cons_succ, List.getD_cons_zero]; rfl) _ (by rfl) (fun W hW => by have hc := hW.cell (c3') id; clear hW; go_simp; with_reducible rfl) ?_ | refine pl_rd (by simp only [List.getD_cons_succ, List.getD_cons_zero]; rfl) _ (by rfl) (fun W hW => by have hc := hW.cell (dy) id; clear hW; go_simp; with_reducible rfl) ?_ | refine pl_rd (by simp only [List.getD_cons_succ, List.getD_cons_zero]; rfl) _ (by rfl) (fun W hW => by have hc := hW.cell (t0') id; clear hW; go_simp; with_reducible rfl) ?_ | refine pl_rd (by simp only [List.getD_cons_succ, List.getD_cons_zero]; rfl) _ (by rfl) (fun W hW => by have hc := hW.cell (t1') id; clear hW; go_simp; with_reducible rfl) ?_); simp only [Act.put, List.setIfInBounds_toArray, List.set_cons_zero, List.set_cons_succ])
  refine pl_load_whole' (by simp only [List.getD_cons_succ, List.getD_cons_zero]; rfl) (by rfl) (.tmp 4) 30 (by rfl) w.heap.size 0 (by rfl) _ agg30 (two_cells' t0' t1') (fun h => h) ?_
  simp only [Act.put, List.setIfInBounds_toArray, List.set_cons_zero, List.set_cons_succ]
  have ka : Kept No w2 (w2.alloc (.cells #[.int .u8 i, .int .u64 b] 30)) := (Kept.refl _ _).alloc _
  have HA := has_any sb mb w2.heap.size l ((i : Int), b) (w2.alloc (.cells #[.int .u8 i, .int .u64 b] 30)) (H2.new ka).c2 (H2.new ka).m (by simp) (by simp)
  rw [show (getL l ((i : Int), b)).isSome = false from hB] at HA
  have HZ : Hid (Kept No w w2 ∧ StoreAt w2 sb mb fb hb n room used l fl hd ∧ w2.cell? ⟨w.heap.size, 0, none⟩ = some (.int .u8 i) ∧ w2.cell? ⟨w.heap.size, 1, none⟩ = some (.int .u64 b)) := ⟨HK.out.1.trans hk2, H2, t0', t1'⟩
  clear H2 ka c3' dy t0' t1' hk2 HK hM
  refine pl_grow (by simp only [List.getD_cons_succ, List.getD_cons_zero]; rfl) ?_
  go_wp2
  refine GPost.mk ((Kept.refl _ _).alloc _) ?_
  refine pl_grow (by simp only [List.getD_cons_succ, List.getD_cons_zero]; rfl) ?_
  go_wp2_with (go_at_call 14; ((with_reducible refine HA.mono ?_); rintro e w3 ⟨rfl, hk3⟩; have k23 := ((Kept.refl No w2).alloc (.cells #[.int .u8 i, .int .u64 b] 30)).trans hk3; have H3 := HZ.out.2.1.new k23; have d0 := H3.c0; have d1 := H3.c1))
  refine GPost.mk hk3 ?_
  repeat ((first | refine pl_pur (by simp only [List.getD_cons_succ, List.getD_cons_zero]; rfl) _ (by rfl) (fun W => by go_simp; with_reducible rfl) ?_ | refine pl_rd (by simp only [List.getD_cons_succ, List.getD_cons_zero]; rfl) _ (by rfl) (fun W hW => by have hc := hW.cell (d0) id; clear hW; go_simp; with_reducible rfl) ?_ | refine pl_rd (by simp only [List.getD_cons_succ, List.getD_cons_zero]; rfl) _ (by rfl) (fun W hW => by have hc := hW.cell (d1) id; clear hW; go_simp; with_reducible rfl) ?_); simp only [Act.put, List.setIfInBounds_toArray, List.set_cons_zero, List.set_cons_succ])
  refine pl_fin ?_
  go_wp2
  go_ret
  exact ⟨rfl, HZ.out.1.trans k23⟩
set_option maxRecDepth 20000 in
set_option maxHeartbeats 4000000 in
theorem put_ok (H : StoreAt w sb mb fb hb n room used l fl hd) (i : Nat) (b y : Int) (hi : i < n) (m : Nat) (A : Option Addr) (c : Nat) (hm : mayI i b n = true) (hy : fl[i]? = some y) (hle : ¬ b ≤ y) (hB : hasL l ((i : Int), b) = false) (hw : IntKind.i64.wrap (room - used) = room - used) (hbig : ¬ room - used < m) (hwu : IntKind.i64.wrap (used + m) = used + m) (x : Int) (hx : hd[i]? = some x) (hl : IdsOk n l) (bx : 0 ≤ x ∧ x ≤ 4611686018427387904) (by' : 0 ≤ y ∧ y ≤ 4611686018427387904) (hb0 : 0 ≤ b ∧ b ≤ 4611686018427387904)
    (G : Nat → Prop) (bs : List Int) (hs : Sl (kI .u8) w G (.slice A m c) bs) (hG : ∀ k, G k → k < w.heap.size) (hGm : ∀ k, G k → ¬ OwnS sb mb fb hb k) (hbs : bs.length ≤ 140737488355328) :
    Calls Try.prog 10 #[.pointer (some ⟨sb, 0, none⟩), .agg #[.int .u8 i, .int .u64 b], .slice A m c] w fun e w' => e = .returned (.bool true) ∧ ∃ v, StoreAt w' sb mb fb hb n room (used + m) (l ++ [(((i : Int), b), v)]) fl (hd.set i (riseTo (l ++ [(((i : Int), b), v)]) i (max x y))) ∧ TW (kI .u8) 5 w' No v bs ∧ Fresh w v ∧ Kept (OwnS sb mb fb hb) w w' := by
  have hn2 := H.n2
  have hk1 : Kept No w (w.alloc (.cells #[.int .u8 i, .int .u64 b] 30)).drew := ((Kept.refl _ _).alloc _).drew
  have c3 := (H.new hk1).c3
  have t0 : (w.alloc (.cells #[.int .u8 i, .int .u64 b] 30)).drew.cell? ⟨w.heap.size, 0, none⟩ = some (.int .u8 i) := by rw [World.cell?_drew]; simp
  have t1 : (w.alloc (.cells #[.int .u8 i, .int .u64 b] 30)).drew.cell? ⟨w.heap.size, 1, none⟩ = some (.int .u64 b) := by rw [World.cell?_drew]; simp
  have hM := may_op i b n (w.alloc (.cells #[.int .u8 i, .int .u64 b] 30)).drew (by omega) (by omega)
  rw [hm] at hM
  have HK : Hid (Kept No w (w.alloc (.cells #[.int .u8 i, .int .u64 b] 30)).drew ∧ StoreAt (w.alloc (.cells #[.int .u8 i, .int .u64 b] 30)).drew sb mb fb hb n room used l fl hd ∧ fl[i]? = some y) := ⟨hk1, H.new hk1, hy⟩
  have hii : (i : Int) < (n : Int) := by omega
  have hdec : decide (b ≤ y) = false := decide_eq_false hle
  have HX : Hid (hasL l ((i : Int), b) = false ∧ hd[i]? = some x ∧ IdsOk n l ∧ (0 ≤ x ∧ x ≤ 4611686018427387904) ∧ (0 ≤ y ∧ y ≤ 4611686018427387904) ∧ (1 ≤ b ∧ b ≤ 4611686018427387904) ∧ Sl (kI .u8) w G (.slice A m c) bs ∧ (∀ k, G k → k < w.heap.size) ∧ (∀ k, G k → ¬ OwnS sb mb fb hb k) ∧ bs.length ≤ 140737488355328 ∧ fl[i]? = some y ∧ ∀ k, OwnS sb mb fb hb k → k < w.heap.size) := ⟨hB, hx, hl, bx, by', by simp only [mayI, Bool.and_eq_true, decide_eq_true_eq] at hm; omega, hs, hG, hGm, hbs, hy, by rintro k (rfl | rfl | rfl | rfl); exact H.lt; exact H.m.lt; exact H.f.lt; exact H.h.lt⟩
  clear hx hl bx by' hb0 hs hG hGm hbs
  clear H hk1 hm hy hn2
  go_enter Try.func10, Try.ntmps10
  go_wp2
  refine wp_region_plan No (.pur 0 (.pur 1 (.pur 2 (.pur 4 (.pur 5 (.pur 6 (.rd 3 (.rd 7 (.rd 8 (.grow 9 (.pur 10 (.pur 11 (.pur 12 (.pur 13 (.pur 15 (.pur 16 (.pur 17 (.pur 19 (.rd 14 (.rd 18 (.rd 20 (.pur 21 (.rd 22 (.pur 23 (.pur 24 (.pur 25 (.pur 26 (.rd 27 (.grow 28 (.grow 29 (.pur 30 (.pur 31 (.pur 32 (.pur 34 (.pur 35 (.pur 36 (.pur 38 (.pur 39 (.pur 40 (.rd 33 (.rd 37 (.rd 41 (.pur 42 (.pur 43 (.pur 44 .fin))))))))))))))))))))))))))))))))))))))))))))) [] mixed (by kernel_rfl) ?_
  repeat ((first | refine pl_pur (by simp only [List.getD_cons_succ, List.getD_cons_zero]; rfl) _ (by rfl) (fun W => by go_simp; with_reducible rfl) ?_ | refine pl_rd (by simp only [List.getD_cons_succ, List.getD_cons_zero]; rfl) _ (by rfl) (fun W hW => by have hc := hW.cell (c3) id; clear hW; go_simp; with_reducible rfl) ?_); simp only [Act.put, List.setIfInBounds_toArray, List.set_cons_zero, List.set_cons_succ])
  refine pl_load_whole' (by simp only [List.getD_cons_succ, List.getD_cons_zero]; rfl) (by rfl) (.tmp 4) 30 (by rfl) w.heap.size 0 (by rfl) _ agg30 (two_cells' t0 t1) (fun h => h) ?_
  simp only [Act.put, List.setIfInBounds_toArray, List.set_cons_zero, List.set_cons_succ]
  repeat ((first | refine pl_pur (by simp only [List.getD_cons_succ, List.getD_cons_zero]; rfl) _ (by rfl) (fun W => by go_simp; with_reducible rfl) ?_ | refine pl_rd (by simp only [List.getD_cons_succ, List.getD_cons_zero]; rfl) _ (by rfl) (fun W hW => by have hc := hW.cell (c3) id; clear hW; go_simp; with_reducible rfl) ?_); simp only [Act.put, List.setIfInBounds_toArray, List.set_cons_zero, List.set_cons_succ])
  refine pl_grow (by simp only [List.getD_cons_succ, List.getD_cons_zero]; rfl) ?_
  go_wp2_with (go_at_call 24; ((with_reducible refine hM.mono ?_); rintro e w2 ⟨rfl, hk2⟩; have H2 := HK.out.2.1.new hk2; have c3' := H2.c3; have dy := H2.f.cell HK.out.2.2; have t0' := hk2.cell t0 id; have t1' := hk2.cell t1 id; clear c3 t0 t1))
  refine GPost.mk hk2 ?_
  repeat ((first | refine pl_pur (by simp only [List.getD_cons_succ, List.getD_cons_zero]; rfl) _ (by rfl) (fun W => by go_simp; with_reducible rfl) ?_ | refine pl_rd (by simp only [List.getD_cons_succ, List.getD_cons_zero]; rfl) _ (by rfl) (fun W hW => by have hc := hW.cell (c3') id; clear hW; go_simp; with_reducible rfl) ?_ | refine pl_rd (by simp only [List.getD_cons_succ, List.getD_cons_zero]; rfl) _ (by rfl) (fun W hW => by have hc := hW.cell (dy) id; clear hW; go_simp; with_reducible rfl) ?_ | refine pl_rd (by simp only [List.getD_cons_succ, List.getD_cons_zero]; rfl) _ (by rfl) (fun W hW => by have hc := hW.cell (t0') id; clear hW; go_simp; with_reducible rfl) ?_ | refine pl_rd (by simp only [List.getD_cons_succ, List.getD_cons_zero]; rfl) _ (by rfl) (fun W hW => by have hc := hW.cell (t1') id; clear hW; go_simp; with_reducible rfl) ?_); simp only [Act.put, List.setIfInBounds_toArray, List.set_cons_zero, List.set_cons_succ])
  refine pl_load_whole' (by simp only [List.getD_cons_succ, List.getD_cons_zero]; rfl) (by rfl) (.tmp 4) 30 (by rfl) w.heap.size 0 (by rfl) _ agg30 (two_cells' t0' t1') (fun h => h) ?_
  simp only [Act.put, List.setIfInBounds_toArray, List.set_cons_zero, List.set_cons_succ]
  have ka : Kept No w2 (w2.alloc (.cells #[.int .u8 i, .int .u64 b] 30)) := (Kept.refl _ _).alloc _
  have HA := has_any sb mb w2.heap.size l ((i : Int), b) (w2.alloc (.cells #[.int .u8 i, .int .u64 b] 30)) (H2.new ka).c2 (H2.new ka).m (by simp) (by simp)
  rw [show (getL l ((i : Int), b)).isSome = false from hB] at HA
  have HZ : Hid (Kept No w w2 ∧ StoreAt w2 sb mb fb hb n room used l fl hd ∧ w2.cell? ⟨w.heap.size, 0, none⟩ = some (.int .u8 i) ∧ w2.cell? ⟨w.heap.size, 1, none⟩ = some (.int .u64 b)) := ⟨HK.out.1.trans hk2, H2, t0', t1'⟩
  clear H2 ka c3' dy t0' t1' hk2 HK hM
  refine pl_grow (by simp only [List.getD_cons_succ, List.getD_cons_zero]; rfl) ?_
  go_wp2
  refine GPost.mk ((Kept.refl _ _).alloc _) ?_
  refine pl_grow (by simp only [List.getD_cons_succ, List.getD_cons_zero]; rfl) ?_
  go_wp2_with (go_at_call 14; ((with_reducible refine HA.mono ?_); rintro e w3 ⟨rfl, hk3⟩; have k23 := ((Kept.refl No w2).alloc (.cells #[.int .u8 i, .int .u64 b] 30)).trans hk3; have H3 := HZ.out.2.1.new k23; have d0 := H3.c0; have d1 := H3.c1))
  refine GPost.mk hk3 ?_
  repeat ((first | refine pl_pur (by simp only [List.getD_cons_succ, List.getD_cons_zero]; rfl) _ (by rfl) (fun W => by go_simp; with_reducible rfl) ?_ | refine pl_rd (by simp only [List.getD_cons_succ, List.getD_cons_zero]; rfl) _ (by rfl) (fun W hW => by have hc := hW.cell (d0) id; clear hW; go_simp; with_reducible rfl) ?_ | refine pl_rd (by simp only [List.getD_cons_succ, List.getD_cons_zero]; rfl) _ (by rfl) (fun W hW => by have hc := hW.cell (d1) id; clear hW; go_simp; with_reducible rfl) ?_); simp only [Act.put, List.setIfInBounds_toArray, List.set_cons_zero, List.set_cons_succ])
  refine pl_fin ?_
  have u0 := k23.cell HZ.out.2.2.1 id
  have u1 := k23.cell HZ.out.2.2.2 id
  have kw := HZ.out.1.trans k23
  clear HA hk3 d0 d1
  clear HZ
  clear k23
  have H3d := H3.new ((Kept.refl No w3).drew)
  have e2 := H3d.c2
  have u0d : w3.drew.cell? ⟨w.heap.size, 0, none⟩ = some (.int .u8 i) := u0
  have u1d : w3.drew.cell? ⟨w.heap.size, 1, none⟩ = some (.int .u64 b) := u1
  have HC := clone_u8 (kI .u8) rfl (.slice A m c) bs w3.drew G ((HX.out.2.2.2.2.2.2.1.new kw).new ((Kept.refl No w3).drew)) (fun k hk => Nat.lt_of_lt_of_le (HX.out.2.2.2.2.2.2.2.1 k hk) kw.size) (by have := HX.out.2.2.2.2.2.2.2.2.2.1; omega)
  have HY : Hid (StoreAt w3.drew sb mb fb hb n room used l fl hd ∧ Kept No w w3.drew) := ⟨H3d, kw.drew⟩
  clear H3 H3d kw u0 u1
  go_wp2
  refine wp_region_plan No (.pur 0 (.pur 1 (.pur 2 (.pur 5 (.rd 3 (.rd 4 (.grow 6 (.act 7 .fin)))))))) [7] mixed (by kernel_rfl) ?_
  repeat ((first | refine pl_pur (by simp only [List.getD_cons_succ, List.getD_cons_zero]; rfl) _ (by rfl) (fun W => by go_simp; with_reducible rfl) ?_ | refine pl_rd (by simp only [List.getD_cons_succ, List.getD_cons_zero]; rfl) _ (by rfl) (fun W hW => by have hc := hW.cell (e2) id; clear hW; go_simp; with_reducible rfl) ?_); simp only [Act.put, List.setIfInBounds_toArray, List.set_cons_zero, List.set_cons_succ])
  refine pl_load_whole' (by simp only [List.getD_cons_succ, List.getD_cons_zero]; rfl) (by rfl) (.tmp 4) 30 (by rfl) w.heap.size 0 (by rfl) _ agg30 (two_cells' u0d u1d) (fun h => h) ?_
  simp only [Act.put, List.setIfInBounds_toArray, List.set_cons_zero, List.set_cons_succ]
  refine pl_grow (by simp only [List.getD_cons_succ, List.getD_cons_zero]; rfl) ?_
  go_wp2_with (go_at_call 25; ((with_reducible refine HC.mono ?_); rintro e w4 ⟨v, rfl, ht, hf, hk4⟩))
  refine GPost.mk hk4 ?_
  have H4 := HY.out.1.new hk4
  have t0 := hk4.cell u0d id
  have t1 := hk4.cell u1d id
  have HF : Hid (Fresh w v ∧ TW (kI .u8) 5 w4 No v bs ∧ Kept No w w4 ∧ StoreAt w4 sb mb fb hb n room used l fl hd ∧ Fresh w3.drew v) := ⟨fun k hk => Nat.le_trans HY.out.2.size (hf k hk), ht.ints, HY.out.2.trans hk4, H4, hf⟩
  obtain ⟨A2, c2, rfl, hl1, hl2⟩ := ht.slice
  clear ht hf hk4 HC e2
  refine pl_update (by simp only [List.getD_cons_succ, List.getD_cons_zero]; rfl) rfl (.tmp 55) (.tmp 56) (.tmp 58) 50 31 (by rfl) keysID Try.underlying50 mb (by rfl) ((i : Int), b) (by rfl) l H4.m ?_
  intro w5 hm5 hk5
  simp only [Act.put, List.setIfInBounds_toArray, List.set_cons_zero, List.set_cons_succ]
  refine pl_fin ?_
  have H5 := HF.out.2.2.2.1.maps hk5 hm5
  rw [putL_none HX.out.1] at H5
  have ho := HX.out.2.2.2.2.2.2.2.2.2.2.2
  have n1 : sb < w.heap.size := ho sb (.inl rfl)
  have n2 : mb < w.heap.size := ho mb (.inr (.inl rfl))
  have hnb : ¬ w.heap.size = sb := by omega
  have t0' := hk5.cell t0 (show ¬ w.heap.size = mb by omega)
  have e1 := H5.c1
  have fr := H5.sfro 1
  have hwi : IntKind.i64.wrap (i : Int) = i := by rw [IntKind.wrap_i64]; have := HF.out.2.2.2.1.n2; omega
  have hw64 : wrap64 (i : Int) = i := by unfold wrap64; have := HF.out.2.2.2.1.n2; omega
  have RS := rise_st (H5.uses (used + m)) (show IdsOk n (l ++ [(((i : Int), b), .slice A2 bs.length c2)]) from fun p hp => by
    rcases List.mem_append.1 hp with hp | hp
    · exact HX.out.2.2.1 p hp
    · rw [List.mem_singleton.1 hp]; have := HX.out.2.2.2.2.2.1; exact ⟨by simp, by simpa using hi, this.1, this.2⟩) i hi x y HX.out.2.1 HX.out.2.2.2.2.2.2.2.2.2.2.1 HX.out.2.2.2.1 HX.out.2.2.2.2.1
  have HQ : Hid (Kept (fun k => k = mb) w4 w5 ∧ StoreAt w5 sb mb fb hb n room used (l ++ [(((i : Int), b), .slice A2 bs.length c2)]) fl hd) := ⟨hk5, H5⟩
  clear ho n2 H4 H5 hm5 hk5 t0 t1 hl1 hl2
  go_wp2_with (go_at_call 26; ((with_reducible refine RS.mono ?_); rintro e w6 ⟨rfl, h6, hk6⟩))
  go_ret
  have kA : Kept (OwnS sb mb fb hb) w4 w6 := ((HQ.out.1.mono (F' := OwnS sb mb fb hb) fun k _ e => .inr (.inl e)).setCell (p := ⟨sb, 1, none⟩) (fun _ => .inl rfl) _).trans (hk6.mono fun k _ e => .inr (.inr (.inr e)))
  exact ⟨rfl, _, h6, HF.out.2.1.kept kA (fun k hk ho => by have := HF.out.1 k hk; have := HX.out.2.2.2.2.2.2.2.2.2.2.2 k ho; omega) (fun _ h => h.elim), HF.out.1, (HF.out.2.2.1.no).trans kA⟩
end
end Go.Proofs.Ytnmjholnnnclcaa
