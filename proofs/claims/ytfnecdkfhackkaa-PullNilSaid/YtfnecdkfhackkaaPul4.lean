/- The package pull, fourth part: choose. -/
import Derived.Test.YtfnecdkfhackkaaPul3
set_option linter.unusedVariables false
set_option linter.unusedSimpArgs false
namespace Go.Proofs.Ytfnecdkfhackkaa
open Go.RowKit

theorem two_sl {w : World} {F : Nat → Prop} {v : Value} {x y : Int} (h : Sl (kI .i64) w F v [x, y]) : ∃ b o c, v = .slice (some ⟨b, o, none⟩) 2 c ∧ w.cell? ⟨b, o, none⟩ = some (.int .i64 x) ∧ w.cell? ⟨b, o + 1, none⟩ = some (.int .i64 y) := by
  obtain ⟨b, o, c, h1, h2, h3⟩ := two_cells h
  exact ⟨b, o, c, h1, h2, h3⟩
set_option maxRecDepth 20000 in
set_option maxHeartbeats 2000000 in
theorem choose_none (px : Nat) (a a0 a1 s0 s1 : Int) (hs0 : IntKind.u64.wrap (a0 + 1) = s0) (hs1 : IntKind.u64.wrap (a1 + 1) = s1) (hv mp : Value) (w : World) (HP : Hid (Puller0 w px a))
    (A0 : Hid (∀ W, Kept No w W → Calls Try.prog 71 #[hv, .int .i64 0] W fun e w' => e = .returned (.int .u64 a0) ∧ W = w')) (A1' : Hid (∀ W, Kept No w W → Calls Try.prog 71 #[hv, .int .i64 1] W fun e w' => e = .returned (.int .u64 a1) ∧ W = w'))
    (L0 : Hid (∀ W, Kept No w W → Calls Try.prog 56 #[.pointer (some ⟨px, 0, none⟩), .agg #[.int .u8 0, .int .u64 s0], hv, mp, .slice none 0 0] W fun e w' => e = .returned (.bool false) ∧ Kept No W w'))
    (L1 : Hid (∀ W, Kept No w W → Calls Try.prog 56 #[.pointer (some ⟨px, 0, none⟩), .agg #[.int .u8 1, .int .u64 s1], hv, mp, .slice none 0 0] W fun e w' => e = .returned (.bool false) ∧ Kept No W w')) :
    Calls Try.prog 57 #[.pointer (some ⟨px, 0, none⟩), hv, mp, .slice none 0 0] w fun e w' => e = .returned (.tuple #[]) ∧ Kept No w w' := by
  have hP := HP.out
  have n0 : w.drew.cell? ⟨px, 0, none⟩ = some (.int .i64 2) := by rw [World.cell?_drew, cell_of_row _ _ 0 _ _ _ hP]; rfl
  have n4 : w.drew.cell? ⟨px, 4, none⟩ = some (.int .i64 1) := by rw [World.cell?_drew, cell_of_row _ _ 4 _ _ _ hP]; rfl
  have HWay : Hid (∀ W, Calls Try.prog 59 #[.int .i64 2, .int .i64 1, .slice none 0 0] W fun e w' => ∃ v', e = .returned v' ∧ TW (kI .i64) 3 w' No v' [0] ∧ Fresh W v' ∧ Kept No W w') := way2_1
  clear hP
  go_enter Try.func57, Try.ntmps57
  go_wp2
  refine wp_region_plan No (.pur 0 (.pur 1 (.pur 2 (.pur 4 (.pur 5 (.pur 6 (.pur 9 (.pur 10 (.pur 11 (.pur 16 (.rd 3 (.rd 7 (.rd 12 (.fork 8 13 (.grow 13 (.act 14 (.rd 15 .fin))) (.grow 8 (.act 14 (.rd 15 .fin))))))))))))))))) [14] mixed (by kernel_rfl) ?_
  repeat ((first | refine pl_pur (by simp only [List.getD_cons_succ, List.getD_cons_zero]; rfl) _ (by rfl) (fun W => by go_simp; with_reducible rfl) ?_ | refine pl_rd (by simp only [List.getD_cons_succ, List.getD_cons_zero]; rfl) _ (by rfl) (fun W hW => by have hc := hW.cell (n0) id; clear hW; go_simp; with_reducible rfl) ?_ | refine pl_rd (by simp only [List.getD_cons_succ, List.getD_cons_zero]; rfl) _ (by rfl) (fun W hW => by have hc := hW.cell (n4) id; clear hW; go_simp; with_reducible rfl) ?_); simp only [Act.put, List.setIfInBounds_toArray, List.set_cons_zero, List.set_cons_succ])
  clear n0 n4
  refine pl_fork (by simp only [List.getD_cons_succ, List.getD_cons_zero]; rfl) (by simp only [List.getD_cons_succ, List.getD_cons_zero]; rfl) ?_ ?_
  · go_wp2_with (go_at_call 59; ((with_reducible refine (HWay.out _).mono ?_); rintro e w1 ⟨v1, rfl, ht1, hf1, hk1⟩))
    refine GPost.mk hk1 ?_
    have H1 : Hid (TW (kI .i64) 3 (w1.alloc (.cells #[.int .i64 1] 3)) No v1 [0] ∧ Fresh w v1 ∧ Kept No w (w1.alloc (.cells #[.int .i64 1] 3)) ∧ Kept No w w1) := ⟨ht1.new ((Kept.refl _ _).alloc _), hf1, ((Kept.refl No w).drew.trans hk1).alloc _, (Kept.refl No w).drew.trans hk1⟩
    clear ht1 hf1 hk1
    obtain ⟨A1, m1, c1, e1⟩ : ∃ A n c, v1 = .slice A n c := by obtain ⟨A, c, h, _⟩ := H1.out.1.slice; exact ⟨A, _, c, h⟩
    subst e1
    refine pl_grow (by simp only [List.getD_cons_succ, List.getD_cons_zero]; rfl) ?_
    go_wp2
    refine GPost.mk ((Kept.refl _ _).alloc _) ?_
    refine pl_act (by simp only [List.getD_cons_succ, List.getD_cons_zero]; rfl) ?_
    refine wpList_append_tw (d := kI .i64) (G := No) (F := fun k' => k' = w1.heap.size) rfl (.tmp 19) (.tmp 24) 42 rfl 3 (.int .i64 0) 8 Try.underlying42 info_i64 rfl _ _ 1 _ [(1 : Int)] [.int .i64 1] rfl H1.out.1 rfl (src_new rfl) (reps_ints (by simp [inr_i64])) rfl (fun _ h => h.elim) (by decide) (by decide) ?_
    intro v2 w2 ht2 hk2 hb2
    have HF : Hid (TW (kI .i64) 3 w2 No v2 [0, 1] ∧ Kept No w w2) := ⟨ht2, H1.out.2.2.1.fresh hk2 H1.out.2.1⟩
    obtain ⟨g, o, c, rfl, hg0, hg1⟩ := two_sl HF.out.1.sl
    have HG : Hid (w2.cell? ⟨g, o, none⟩ = some (.int .i64 0) ∧ w2.cell? ⟨g, o + 1, none⟩ = some (.int .i64 1)) := ⟨hg0, hg1⟩
    clear ht2 hk2 hb2 hg0 hg1 H1
    refine APost.mk ?_
    repeat ((first | refine pl_pur (by simp only [List.getD_cons_succ, List.getD_cons_zero]; rfl) _ (by rfl) (fun W => by go_simp; with_reducible rfl) ?_ | refine pl_rd (by simp only [List.getD_cons_succ, List.getD_cons_zero]; rfl) _ (by rfl) (fun W hW => by have hc := kcell hW; clear hW; go_simp; with_reducible rfl) ?_); simp only [Act.put, List.setIfInBounds_toArray, List.set_cons_zero, List.set_cons_succ])
    refine pl_fin ?_
    go_wp2
    go_loopw [27] (fun i wr => ∃ k : Nat, k ≤ 2 ∧ i = .int .i64 k ∧ Kept No w2 wr) (fun i _ => 2 - (intOf i).toNat)
    case atStart => exact ⟨0, Nat.zero_le _, rfl, Kept.refl _ _⟩
    case round =>
      obtain ⟨k, hk, rfl, hke⟩ := hrel
      have HKE : Hid (Kept No w wr) := HF.out.2.trans hke
      have hcs : k = 0 ∨ k = 1 ∨ k = 2 := by omega
      have g0 := hke.cell HG.out.1 id
      have g1 := hke.cell HG.out.2 id
      rcases hcs with rfl | rfl | rfl
      · go_wp2_with (first
          | (go_at_call 71; ((with_reducible refine (A0.out _ HKE.out).mono ?_); rintro e w3 ⟨rfl, rfl⟩))
          | (go_at_call 56; go_loud ((with_reducible refine (L0.out _ (HKE.out.alloc _)).mono ?_); rintro e w4 ⟨rfl, hk4⟩; have HK4 : Hid (Kept No wr w4) := ((Kept.refl _ _).alloc _).trans hk4; clear hk4)))
        have hkn := hke.trans HK4.out
        go_roundw
        case rel => exact ⟨1, by omega, by go_num, hkn⟩
        case measure => simp [intOf]
      · go_wp2_with (first
          | (go_at_call 71; ((with_reducible refine (A1'.out _ HKE.out).mono ?_); rintro e w3 ⟨rfl, rfl⟩))
          | (go_at_call 56; go_loud ((with_reducible refine (L1.out _ (HKE.out.alloc _)).mono ?_); rintro e w4 ⟨rfl, hk4⟩; have HK4 : Hid (Kept No wr w4) := ((Kept.refl _ _).alloc _).trans hk4; clear hk4)))
        have hkn := hke.trans HK4.out
        go_roundw
        case rel => exact ⟨2, by omega, by go_num, hkn⟩
        case measure => simp [intOf]
      · go_wp2
        go_end0
        exact ⟨rfl, HKE.out⟩
  · go_wp2
    refine GPost.mk ((Kept.refl _ _).alloc _) ?_
    refine pl_grow (by simp only [List.getD_cons_succ, List.getD_cons_zero]; rfl) ?_
    go_wp2_with (go_at_call 59; ((with_reducible refine (HWay.out _).mono ?_); rintro e w1 ⟨v1, rfl, ht1, hf1, hk1⟩))
    refine GPost.mk hk1 ?_
    have hwa : Kept No w (w.alloc (.cells #[.int .i64 1] 3)) := (Kept.refl _ _).alloc _
    have H1 : Hid (TW (kI .i64) 3 w1 No v1 [0] ∧ Fresh w v1 ∧ Kept No w w1 ∧ Src w1 (fun k' => k' = w.heap.size) 1 (.slice (some ⟨w.heap.size, 0, none⟩) 1 1) 1 [.int .i64 1]) := ⟨ht1, fun k hk => Nat.le_trans hwa.size (by simpa using hf1 k hk), (hwa.drew).trans hk1, (src_new (w := w) (e := 3) (c := .int .i64 1) rfl).move fun k hk hlt => hk1.block k hlt id⟩
    clear ht1 hf1 hk1 hwa
    obtain ⟨A1, m1, c1, e1⟩ : ∃ A n c, v1 = .slice A n c := by obtain ⟨A, c, h, _⟩ := H1.out.1.slice; exact ⟨A, _, c, h⟩
    subst e1
    refine pl_act (by simp only [List.getD_cons_succ, List.getD_cons_zero]; rfl) ?_
    refine wpList_append_tw (d := kI .i64) (G := No) (F := fun k' => k' = w.heap.size) rfl (.tmp 19) (.tmp 24) 42 rfl 3 (.int .i64 0) 8 Try.underlying42 info_i64 rfl _ _ 1 _ [(1 : Int)] [.int .i64 1] rfl H1.out.1 rfl H1.out.2.2.2 (reps_ints (by simp [inr_i64])) rfl (fun _ h => h.elim) (by decide) (by decide) ?_
    intro v2 w2 ht2 hk2 hb2
    have HF : Hid (TW (kI .i64) 3 w2 No v2 [0, 1] ∧ Kept No w w2) := ⟨ht2, H1.out.2.2.1.fresh hk2 H1.out.2.1⟩
    obtain ⟨g, o, c, rfl, hg0, hg1⟩ := two_sl HF.out.1.sl
    have HG : Hid (w2.cell? ⟨g, o, none⟩ = some (.int .i64 0) ∧ w2.cell? ⟨g, o + 1, none⟩ = some (.int .i64 1)) := ⟨hg0, hg1⟩
    clear ht2 hk2 hb2 hg0 hg1 H1
    refine APost.mk ?_
    repeat ((first | refine pl_pur (by simp only [List.getD_cons_succ, List.getD_cons_zero]; rfl) _ (by rfl) (fun W => by go_simp; with_reducible rfl) ?_ | refine pl_rd (by simp only [List.getD_cons_succ, List.getD_cons_zero]; rfl) _ (by rfl) (fun W hW => by have hc := kcell hW; clear hW; go_simp; with_reducible rfl) ?_); simp only [Act.put, List.setIfInBounds_toArray, List.set_cons_zero, List.set_cons_succ])
    refine pl_fin ?_
    go_wp2
    go_loopw [27] (fun i wr => ∃ k : Nat, k ≤ 2 ∧ i = .int .i64 k ∧ Kept No w2 wr) (fun i _ => 2 - (intOf i).toNat)
    case atStart => exact ⟨0, Nat.zero_le _, rfl, Kept.refl _ _⟩
    case round =>
      obtain ⟨k, hk, rfl, hke⟩ := hrel
      have HKE : Hid (Kept No w wr) := HF.out.2.trans hke
      have hcs : k = 0 ∨ k = 1 ∨ k = 2 := by omega
      have g0 := hke.cell HG.out.1 id
      have g1 := hke.cell HG.out.2 id
      rcases hcs with rfl | rfl | rfl
      · go_wp2_with (first
          | (go_at_call 71; ((with_reducible refine (A0.out _ HKE.out).mono ?_); rintro e w3 ⟨rfl, rfl⟩))
          | (go_at_call 56; go_loud ((with_reducible refine (L0.out _ (HKE.out.alloc _)).mono ?_); rintro e w4 ⟨rfl, hk4⟩; have HK4 : Hid (Kept No wr w4) := ((Kept.refl _ _).alloc _).trans hk4; clear hk4)))
        have hkn := hke.trans HK4.out
        go_roundw
        case rel => exact ⟨1, by omega, by go_num, hkn⟩
        case measure => simp [intOf]
      · go_wp2_with (first
          | (go_at_call 71; ((with_reducible refine (A1'.out _ HKE.out).mono ?_); rintro e w3 ⟨rfl, rfl⟩))
          | (go_at_call 56; go_loud ((with_reducible refine (L1.out _ (HKE.out.alloc _)).mono ?_); rintro e w4 ⟨rfl, hk4⟩; have HK4 : Hid (Kept No wr w4) := ((Kept.refl _ _).alloc _).trans hk4; clear hk4)))
        have hkn := hke.trans HK4.out
        go_roundw
        case rel => exact ⟨2, by omega, by go_num, hkn⟩
        case measure => simp [intOf]
      · go_wp2
        go_end0
        exact ⟨rfl, HKE.out⟩

set_option maxRecDepth 20000 in
set_option maxHeartbeats 2000000 in
theorem choose_first (px : Nat) (a a0 s0 : Int) (hs0 : IntKind.u64.wrap (a0 + 1) = s0) (hv mp : Value) (w : World) (HP : Hid (Puller0 w px a))
    (A0 : Hid (∀ W, Kept No w W → Calls Try.prog 71 #[hv, .int .i64 0] W fun e w' => e = .returned (.int .u64 a0) ∧ W = w'))
    (L0 : Hid (∀ W, Kept No w W → Calls Try.prog 56 #[.pointer (some ⟨px, 0, none⟩), .agg #[.int .u8 0, .int .u64 s0], hv, mp, .slice none 0 0] W fun e w' => e = .returned (.bool true) ∧ Kept No W w')) :
    Calls Try.prog 57 #[.pointer (some ⟨px, 0, none⟩), hv, mp, .slice none 0 0] w fun e w' => e = .returned (.tuple #[]) ∧ Kept (fun k => k = px) w w' ∧ ∃ wb, w.heap.size ≤ wb ∧
      w'.heap[px]? = some (.cells #[.int .i64 2, .int .i64 0, .int .i64 a, .pointer (some ⟨wb, 0, none⟩), .int .i64 0, .int .i64 0, .int .u64 0] 92 (0, 0)) ∧ w'.heap[wb]? = some (.cells #[.int .u8 0, .int .u64 s0, .bool false, .int .i64 0] 95 (0, 0)) := by
  have hP := HP.out
  have n0 : w.drew.cell? ⟨px, 0, none⟩ = some (.int .i64 2) := by rw [World.cell?_drew, cell_of_row _ _ 0 _ _ _ hP]; rfl
  have n4 : w.drew.cell? ⟨px, 4, none⟩ = some (.int .i64 1) := by rw [World.cell?_drew, cell_of_row _ _ 4 _ _ _ hP]; rfl
  have HWay : Hid (∀ W, Calls Try.prog 59 #[.int .i64 2, .int .i64 1, .slice none 0 0] W fun e w' => ∃ v', e = .returned v' ∧ TW (kI .i64) 3 w' No v' [0] ∧ Fresh W v' ∧ Kept No W w') := way2_1
  clear hP
  go_enter Try.func57, Try.ntmps57
  go_wp2
  refine wp_region_plan No (.pur 0 (.pur 1 (.pur 2 (.pur 4 (.pur 5 (.pur 6 (.pur 9 (.pur 10 (.pur 11 (.pur 16 (.rd 3 (.rd 7 (.rd 12 (.fork 8 13 (.grow 13 (.act 14 (.rd 15 .fin))) (.grow 8 (.act 14 (.rd 15 .fin))))))))))))))))) [14] mixed (by kernel_rfl) ?_
  repeat ((first | refine pl_pur (by simp only [List.getD_cons_succ, List.getD_cons_zero]; rfl) _ (by rfl) (fun W => by go_simp; with_reducible rfl) ?_ | refine pl_rd (by simp only [List.getD_cons_succ, List.getD_cons_zero]; rfl) _ (by rfl) (fun W hW => by have hc := hW.cell (n0) id; clear hW; go_simp; with_reducible rfl) ?_ | refine pl_rd (by simp only [List.getD_cons_succ, List.getD_cons_zero]; rfl) _ (by rfl) (fun W hW => by have hc := hW.cell (n4) id; clear hW; go_simp; with_reducible rfl) ?_); simp only [Act.put, List.setIfInBounds_toArray, List.set_cons_zero, List.set_cons_succ])
  clear n0 n4
  refine pl_fork (by simp only [List.getD_cons_succ, List.getD_cons_zero]; rfl) (by simp only [List.getD_cons_succ, List.getD_cons_zero]; rfl) ?_ ?_
  · go_wp2_with (go_at_call 59; ((with_reducible refine (HWay.out _).mono ?_); rintro e w1 ⟨v1, rfl, ht1, hf1, hk1⟩))
    refine GPost.mk hk1 ?_
    have H1 : Hid (TW (kI .i64) 3 (w1.alloc (.cells #[.int .i64 1] 3)) No v1 [0] ∧ Fresh w v1 ∧ Kept No w (w1.alloc (.cells #[.int .i64 1] 3)) ∧ Kept No w w1) := ⟨ht1.new ((Kept.refl _ _).alloc _), hf1, ((Kept.refl No w).drew.trans hk1).alloc _, (Kept.refl No w).drew.trans hk1⟩
    clear ht1 hf1 hk1
    obtain ⟨A1, m1, c1, e1⟩ : ∃ A n c, v1 = .slice A n c := by obtain ⟨A, c, h, _⟩ := H1.out.1.slice; exact ⟨A, _, c, h⟩
    subst e1
    refine pl_grow (by simp only [List.getD_cons_succ, List.getD_cons_zero]; rfl) ?_
    go_wp2
    refine GPost.mk ((Kept.refl _ _).alloc _) ?_
    refine pl_act (by simp only [List.getD_cons_succ, List.getD_cons_zero]; rfl) ?_
    refine wpList_append_tw (d := kI .i64) (G := No) (F := fun k' => k' = w1.heap.size) rfl (.tmp 19) (.tmp 24) 42 rfl 3 (.int .i64 0) 8 Try.underlying42 info_i64 rfl _ _ 1 _ [(1 : Int)] [.int .i64 1] rfl H1.out.1 rfl (src_new rfl) (reps_ints (by simp [inr_i64])) rfl (fun _ h => h.elim) (by decide) (by decide) ?_
    intro v2 w2 ht2 hk2 hb2
    have HF : Hid (TW (kI .i64) 3 w2 No v2 [0, 1] ∧ Kept No w w2) := ⟨ht2, H1.out.2.2.1.fresh hk2 H1.out.2.1⟩
    obtain ⟨g, o, c, rfl, hg0, hg1⟩ := two_sl HF.out.1.sl
    have HG : Hid (w2.cell? ⟨g, o, none⟩ = some (.int .i64 0) ∧ w2.cell? ⟨g, o + 1, none⟩ = some (.int .i64 1)) := ⟨hg0, hg1⟩
    clear ht2 hk2 hb2 hg0 hg1 H1
    refine APost.mk ?_
    repeat ((first | refine pl_pur (by simp only [List.getD_cons_succ, List.getD_cons_zero]; rfl) _ (by rfl) (fun W => by go_simp; with_reducible rfl) ?_ | refine pl_rd (by simp only [List.getD_cons_succ, List.getD_cons_zero]; rfl) _ (by rfl) (fun W hW => by have hc := kcell hW; clear hW; go_simp; with_reducible rfl) ?_); simp only [Act.put, List.setIfInBounds_toArray, List.set_cons_zero, List.set_cons_succ])
    refine pl_fin ?_
    go_wp2
    go_loopw [27] (fun i wr => i = .int .i64 0 ∧ wr = w2) (fun _ _ => 0)
    case atStart => exact ⟨rfl, rfl⟩
    case round =>
      obtain ⟨rfl, rfl⟩ := hrel
      have HKE : Hid (Kept No w wr) := HF.out.2
      have g0 := HG.out.1
      go_wp2_with (first
          | (go_at_call 71; ((with_reducible refine (A0.out _ HKE.out).mono ?_); rintro e w3 ⟨rfl, rfl⟩))
          | (go_at_call 56; go_loud ((with_reducible refine (L0.out _ (HKE.out.alloc _)).mono ?_); rintro e w4 ⟨rfl, hk4⟩; have HK4 : Hid (Kept No wr w4 ∧ Kept No (wr.alloc (.cells #[.int .u8 0, .int .u64 s0] 40)) w4) := ⟨((Kept.refl _ _).alloc _).trans hk4, hk4⟩; have hP4 := ((HKE.out.trans HK4.out.1).block _ (lt_of_heap HP.out) id).trans HP.out; have p3 : w4.cell? ⟨px, 3, none⟩ = some (.pointer none) := (by rw [cell_of_row _ _ 3 _ _ _ hP4]; rfl); have p4 : w4.cell? ⟨px, 4, none⟩ = some (.int .i64 1) := (by rw [cell_of_row _ _ 4 _ _ _ hP4]; rfl); have pf3 := frozen_of_row w4 px 3 _ _ hP4; have pf4 := frozen_of_row w4 px 4 _ _ hP4; have j0 : w4.cell? ⟨wr.heap.size, 0, none⟩ = some (.int .u8 0) := hk4.cell (by simp) id; have j1 : w4.cell? ⟨wr.heap.size, 1, none⟩ = some (.int .u64 s0) := hk4.cell (by simp) id; have hpl := lt_of_heap hP4; have hP4' : Hid (w4.heap[px]? = some (.cells #[.int .i64 2, .int .i64 0, .int .i64 a, .pointer none, .int .i64 1, .int .i64 0, .int .u64 0] 92 (0, 0))) := hP4; have j2 := World.block_lt_of_cell? w4 _ j0; clear hk4 hP4)))
      refine bodyPost_ret (results_none (by rfl) _ _ _) rfl ?_
      refine ⟨rfl, ?_, w4.heap.size, ?_, ?_, ?_⟩
      · exact (((Kept.no (F := fun k => k = px) (HKE.out.trans HK4.out.1)).setCell (p := ⟨px, 3, none⟩) (fun _ => rfl) _).setCell (p := ⟨px, 4, none⟩) (fun _ => rfl) _).alloc _
      · exact (HKE.out.trans HK4.out.1).size
      · exact (Below.heap_alloc _ _ _ (by simpa using hpl)).trans (heap_setCell_same _ px 4 _ 92 _ (heap_setCell_same w4 px 3 _ 92 _ hP4'.out))
      · have := heap_alloc_new ((w4.setCell ⟨px, 3, none⟩ (.pointer (some ⟨w4.heap.size, 0, none⟩))).setCell ⟨px, 4, none⟩ (.int .i64 0)) (.cells #[.int .u8 0, .int .u64 s0, .bool false, .int .i64 0] 95)
        simpa only [World.size_setCell] using this
  · go_wp2
    refine GPost.mk ((Kept.refl _ _).alloc _) ?_
    refine pl_grow (by simp only [List.getD_cons_succ, List.getD_cons_zero]; rfl) ?_
    go_wp2_with (go_at_call 59; ((with_reducible refine (HWay.out _).mono ?_); rintro e w1 ⟨v1, rfl, ht1, hf1, hk1⟩))
    refine GPost.mk hk1 ?_
    have hwa : Kept No w (w.alloc (.cells #[.int .i64 1] 3)) := (Kept.refl _ _).alloc _
    have H1 : Hid (TW (kI .i64) 3 w1 No v1 [0] ∧ Fresh w v1 ∧ Kept No w w1 ∧ Src w1 (fun k' => k' = w.heap.size) 1 (.slice (some ⟨w.heap.size, 0, none⟩) 1 1) 1 [.int .i64 1]) := ⟨ht1, fun k hk => Nat.le_trans hwa.size (by simpa using hf1 k hk), (hwa.drew).trans hk1, (src_new (w := w) (e := 3) (c := .int .i64 1) rfl).move fun k hk hlt => hk1.block k hlt id⟩
    clear ht1 hf1 hk1 hwa
    obtain ⟨A1, m1, c1, e1⟩ : ∃ A n c, v1 = .slice A n c := by obtain ⟨A, c, h, _⟩ := H1.out.1.slice; exact ⟨A, _, c, h⟩
    subst e1
    refine pl_act (by simp only [List.getD_cons_succ, List.getD_cons_zero]; rfl) ?_
    refine wpList_append_tw (d := kI .i64) (G := No) (F := fun k' => k' = w.heap.size) rfl (.tmp 19) (.tmp 24) 42 rfl 3 (.int .i64 0) 8 Try.underlying42 info_i64 rfl _ _ 1 _ [(1 : Int)] [.int .i64 1] rfl H1.out.1 rfl H1.out.2.2.2 (reps_ints (by simp [inr_i64])) rfl (fun _ h => h.elim) (by decide) (by decide) ?_
    intro v2 w2 ht2 hk2 hb2
    have HF : Hid (TW (kI .i64) 3 w2 No v2 [0, 1] ∧ Kept No w w2) := ⟨ht2, H1.out.2.2.1.fresh hk2 H1.out.2.1⟩
    obtain ⟨g, o, c, rfl, hg0, hg1⟩ := two_sl HF.out.1.sl
    have HG : Hid (w2.cell? ⟨g, o, none⟩ = some (.int .i64 0) ∧ w2.cell? ⟨g, o + 1, none⟩ = some (.int .i64 1)) := ⟨hg0, hg1⟩
    clear ht2 hk2 hb2 hg0 hg1 H1
    refine APost.mk ?_
    repeat ((first | refine pl_pur (by simp only [List.getD_cons_succ, List.getD_cons_zero]; rfl) _ (by rfl) (fun W => by go_simp; with_reducible rfl) ?_ | refine pl_rd (by simp only [List.getD_cons_succ, List.getD_cons_zero]; rfl) _ (by rfl) (fun W hW => by have hc := kcell hW; clear hW; go_simp; with_reducible rfl) ?_); simp only [Act.put, List.setIfInBounds_toArray, List.set_cons_zero, List.set_cons_succ])
    refine pl_fin ?_
    go_wp2
    go_loopw [27] (fun i wr => i = .int .i64 0 ∧ wr = w2) (fun _ _ => 0)
    case atStart => exact ⟨rfl, rfl⟩
    case round =>
      obtain ⟨rfl, rfl⟩ := hrel
      have HKE : Hid (Kept No w wr) := HF.out.2
      have g0 := HG.out.1
      go_wp2_with (first
          | (go_at_call 71; ((with_reducible refine (A0.out _ HKE.out).mono ?_); rintro e w3 ⟨rfl, rfl⟩))
          | (go_at_call 56; go_loud ((with_reducible refine (L0.out _ (HKE.out.alloc _)).mono ?_); rintro e w4 ⟨rfl, hk4⟩; have HK4 : Hid (Kept No wr w4 ∧ Kept No (wr.alloc (.cells #[.int .u8 0, .int .u64 s0] 40)) w4) := ⟨((Kept.refl _ _).alloc _).trans hk4, hk4⟩; have hP4 := ((HKE.out.trans HK4.out.1).block _ (lt_of_heap HP.out) id).trans HP.out; have p3 : w4.cell? ⟨px, 3, none⟩ = some (.pointer none) := (by rw [cell_of_row _ _ 3 _ _ _ hP4]; rfl); have p4 : w4.cell? ⟨px, 4, none⟩ = some (.int .i64 1) := (by rw [cell_of_row _ _ 4 _ _ _ hP4]; rfl); have pf3 := frozen_of_row w4 px 3 _ _ hP4; have pf4 := frozen_of_row w4 px 4 _ _ hP4; have j0 : w4.cell? ⟨wr.heap.size, 0, none⟩ = some (.int .u8 0) := hk4.cell (by simp) id; have j1 : w4.cell? ⟨wr.heap.size, 1, none⟩ = some (.int .u64 s0) := hk4.cell (by simp) id; have hpl := lt_of_heap hP4; have hP4' : Hid (w4.heap[px]? = some (.cells #[.int .i64 2, .int .i64 0, .int .i64 a, .pointer none, .int .i64 1, .int .i64 0, .int .u64 0] 92 (0, 0))) := hP4; have j2 := World.block_lt_of_cell? w4 _ j0; clear hk4 hP4)))
      refine bodyPost_ret (results_none (by rfl) _ _ _) rfl ?_
      refine ⟨rfl, ?_, w4.heap.size, ?_, ?_, ?_⟩
      · exact (((Kept.no (F := fun k => k = px) (HKE.out.trans HK4.out.1)).setCell (p := ⟨px, 3, none⟩) (fun _ => rfl) _).setCell (p := ⟨px, 4, none⟩) (fun _ => rfl) _).alloc _
      · exact (HKE.out.trans HK4.out.1).size
      · exact (Below.heap_alloc _ _ _ (by simpa using hpl)).trans (heap_setCell_same _ px 4 _ 92 _ (heap_setCell_same w4 px 3 _ 92 _ hP4'.out))
      · have := heap_alloc_new ((w4.setCell ⟨px, 3, none⟩ (.pointer (some ⟨w4.heap.size, 0, none⟩))).setCell ⟨px, 4, none⟩ (.int .i64 0)) (.cells #[.int .u8 0, .int .u64 s0, .bool false, .int .i64 0] 95)
        simpa only [World.size_setCell] using this

end Go.Proofs.Ytfnecdkfhackkaa
