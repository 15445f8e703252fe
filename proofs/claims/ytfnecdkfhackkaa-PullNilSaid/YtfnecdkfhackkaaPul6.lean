/- The package pull, sixth part: Next that asks somebody. -/
import Derived.Test.YtfnecdkfhackkaaPul5
set_option linter.unusedVariables false
set_option linter.unusedSimpArgs false
namespace Go.Proofs.Ytfnecdkfhackkaa
open Go.RowKit

theorem asked_world {w w1 : World} {px wb tb : Nat} {s T : Int} (hk : Kept (fun k => k = px) w w1) (h1 : w1.heap[px]? = some (.cells #[.int .i64 2, .int .i64 0, .int .i64 2, .pointer (some ⟨wb, 0, none⟩), .int .i64 0, .int .i64 0, .int .u64 0] 92 (0, 0)))
    (h2 : w1.heap[wb]? = some (.cells #[.int .u8 0, .int .u64 s, .bool false, .int .i64 0] 95 (0, 0))) (h3 : w1.heap[tb]? = some (.cells #[.int .u8 0, .int .u64 0] 40 (0, 0))) (hwb : w.heap.size ≤ wb) (n1 : wb ≠ px) (n2 : tb ≠ px) (n3 : tb ≠ wb) :
    Kept (fun k => k = px) w (((w1.setCell ⟨wb, 2, none⟩ (.bool true)).setCell ⟨wb, 3, none⟩ (.int .i64 T)).setCell ⟨px, 6, none⟩ (.int .u64 1)).drew ∧
    (((w1.setCell ⟨wb, 2, none⟩ (.bool true)).setCell ⟨wb, 3, none⟩ (.int .i64 T)).setCell ⟨px, 6, none⟩ (.int .u64 1)).drew.heap[px]? = some (.cells #[.int .i64 2, .int .i64 0, .int .i64 2, .pointer (some ⟨wb, 0, none⟩), .int .i64 0, .int .i64 0, .int .u64 1] 92 (0, 0)) ∧
    (((w1.setCell ⟨wb, 2, none⟩ (.bool true)).setCell ⟨wb, 3, none⟩ (.int .i64 T)).setCell ⟨px, 6, none⟩ (.int .u64 1)).drew.heap[wb]? = some (.cells #[.int .u8 0, .int .u64 s, .bool true, .int .i64 T] 95 (0, 0)) ∧
    (((w1.setCell ⟨wb, 2, none⟩ (.bool true)).setCell ⟨wb, 3, none⟩ (.int .i64 T)).setCell ⟨px, 6, none⟩ (.int .u64 1)).drew.heap[tb]? = some (.cells #[.int .u8 0, .int .u64 0] 40 (0, 0)) := by
  have o : ∀ {W : World} {b j k : Nat} {v : Value} {r : Option Obj}, k ≠ b → W.heap[k]? = r → (W.setCell ⟨b, j, none⟩ v).heap[k]? = r := fun h e => (Below.heap_setCell _ _ _ _ h).trans e
  refine ⟨(((hk.setCell (p := ⟨wb, 2, none⟩) (fun h => absurd h (by simp only; omega)) _).setCell (p := ⟨wb, 3, none⟩) (fun h => absurd h (by simp only; omega)) _).setCell (p := ⟨px, 6, none⟩) (fun _ => rfl) _).drew, ?_, ?_, ?_⟩
  · exact heap_setCell_same _ px 6 _ 92 _ (o (Ne.symm n1) (o (Ne.symm n1) h1))
  · exact o n1 (heap_setCell_same _ wb 3 _ 95 _ (heap_setCell_same w1 wb 2 _ 95 _ h2))
  · exact o n2 (o n3 (o n3 h3))
set_option maxRecDepth 20000 in
set_option maxHeartbeats 4000000 in
theorem next_first (px : Nat) (s : Int) (hv mp : Value) (w : World) (HP : Hid (Puller0 w px 2))
    (HC : Hid (∀ W, Kept No w W → Calls Try.prog 57 #[.pointer (some ⟨px, 0, none⟩), hv, mp, .slice none 0 0] W fun e w' => e = .returned (.tuple #[]) ∧ Kept (fun k => k = px) W w' ∧ ∃ wb, W.heap.size ≤ wb ∧
      w'.heap[px]? = some (.cells #[.int .i64 2, .int .i64 0, .int .i64 2, .pointer (some ⟨wb, 0, none⟩), .int .i64 0, .int .i64 0, .int .u64 0] 92 (0, 0)) ∧ w'.heap[wb]? = some (.cells #[.int .u8 0, .int .u64 s, .bool false, .int .i64 0] 95 (0, 0))))
    (HH : Hid (∀ W, Kept (fun k => k = px) w W → W.cell? ⟨px, 0, none⟩ = some (.int .i64 2) → W.cell? ⟨px, 1, none⟩ = some (.int .i64 0) → Calls Try.prog 58 #[.pointer (some ⟨px, 0, none⟩), .agg #[.int .u8 0, .int .u64 s], mp, .slice none 0 0] W fun e w' =>
      ∃ g o c, e = .returned (.slice (some ⟨g, o, none⟩) 1 c) ∧ w'.cell? ⟨g, o, none⟩ = some (.int .i64 1) ∧ Kept No W w')) :
    Calls Try.prog 39 #[.pointer (some ⟨px, 0, none⟩), .int .i64 0, hv, mp, .slice none 0 0] w fun e w' => e = .returned (.tuple #[.agg #[.int .u8 0, .int .u64 s], .int .i64 1, .bool true]) ∧ Kept (fun k => k = px) w w' := by
  have hP := HP.out
  have p3 : w.cell? ⟨px, 3, none⟩ = some (.pointer none) := by rw [cell_of_row _ _ 3 _ _ _ hP]; rfl
  have hpl := lt_of_heap hP
  have HT : Hid (∀ W, Kept (fun k => k = px) (w.alloc (.cells #[.int .u8 0, .int .u64 0] 40)) W → Kept (fun k => k = px) w W ∧ W.heap[w.heap.size]? = some (.cells #[.int .u8 0, .int .u64 0] 40 (0, 0))) := by
    intro W hW
    have h := heap_alloc_new w (.cells #[.int .u8 0, .int .u64 0] 40)
    exact ⟨((Kept.refl _ w).alloc _).trans hW, (hW.block _ (lt_of_heap h) (fun e => by have e : w.heap.size = px := e; omega)).trans h⟩
  clear hP
  go_enter Try.func39, Try.ntmps39
  go_wp2_with (go_at_call 57; go_loud ((with_reducible refine (HC.out _ ((Kept.refl _ _).alloc _)).mono ?_); rintro e w1 ⟨rfl, hk1, wb, hwb, h1, h2⟩; obtain ⟨k1, h3⟩ := HT.out w1 hk1; have HB : Hid (Kept (fun k => k = px) w w1 ∧ w1.heap[px]? = some (.cells #[.int .i64 2, .int .i64 0, .int .i64 2, .pointer (some ⟨wb, 0, none⟩), .int .i64 0, .int .i64 0, .int .u64 0] 92 (0, 0)) ∧ w1.heap[wb]? = some (.cells #[.int .u8 0, .int .u64 s, .bool false, .int .i64 0] 95 (0, 0)) ∧ w1.heap[w.heap.size]? = some (.cells #[.int .u8 0, .int .u64 0] 40 (0, 0))) := ⟨k1, h1, h2, h3⟩; have hwb' : w.heap.size + 1 ≤ wb := (by simpa using hwb); have q3 : w1.cell? ⟨px, 3, none⟩ = some (.pointer (some ⟨wb, 0, none⟩)) := (by rw [cell_of_row _ _ 3 _ _ _ h1]; rfl); have q6 : w1.cell? ⟨px, 6, none⟩ = some (.int .u64 0) := (by rw [cell_of_row _ _ 6 _ _ _ h1]; rfl); have b0 : w1.cell? ⟨wb, 0, none⟩ = some (.int .u8 0) := (by rw [cell_of_row _ _ 0 _ _ _ h2]; rfl); have b1 : w1.cell? ⟨wb, 1, none⟩ = some (.int .u64 s) := (by rw [cell_of_row _ _ 1 _ _ _ h2]; rfl); have b2 : w1.cell? ⟨wb, 2, none⟩ = some (.bool false) := (by rw [cell_of_row _ _ 2 _ _ _ h2]; rfl); have b3 : w1.cell? ⟨wb, 3, none⟩ = some (.int .i64 0) := (by rw [cell_of_row _ _ 3 _ _ _ h2]; rfl); have f2 := frozen_of_row w1 wb 2 _ _ h2; have f3 := frozen_of_row w1 wb 3 _ _ h2; have f6 := frozen_of_row w1 px 6 _ _ h1; have hne : ¬ wb = px := (by omega); have hne2 : ¬ px = wb := (by omega); clear k1 h1 h2 h3 hk1 hwb))
  all_goals
    refine wp_region_plan No (.pur 0 (.pur 1 (.pur 2 (.pur 3 (.pur 4 (.pur 5 (.rd 6 (.pur 7 (.pur 8 (.pur 9 (.pur 10 (.pur 11 (.pur 14 (.pur 15 (.pur 16 (.rd 12 (.pur 13 (.rd 17 (.pur 18 (.pur 19 (.pur 20 .fin))))))))))))))))))))) [] mixed (by kernel_rfl) ?_
    repeat ((first | refine pl_pur (by simp only [List.getD_cons_succ, List.getD_cons_zero]; rfl) _ (by rfl) (fun W => by go_simp; with_reducible rfl) ?_ | refine pl_rd (by simp only [List.getD_cons_succ, List.getD_cons_zero]; rfl) _ (by rfl) (fun W hW => by have hc := hW.cell ((show w1.drew.cell? ⟨wb, 2, none⟩ = some (.bool false) from b2)) id; clear hW; go_simp; with_reducible rfl) ?_ | refine pl_skip (by simp only [List.getD_cons_succ, List.getD_cons_zero]; rfl) (by rfl) ?_ | refine pl_skip_rd (by simp only [List.getD_cons_succ, List.getD_cons_zero]; rfl) (by rfl) ?_ | refine pl_skip_grow (by simp only [List.getD_cons_succ, List.getD_cons_zero]; rfl) (by rfl) ?_ | refine pl_skip_act (by simp only [List.getD_cons_succ, List.getD_cons_zero]; rfl) (by rfl) ?_); simp only [Act.put, List.setIfInBounds_toArray, List.set_cons_zero, List.set_cons_succ])
    refine pl_fin ?_
    have HQ : Hid (Kept (fun k => k = px) w ((((w1.setCell ⟨wb, 2, none⟩ (.bool true)).setCell ⟨wb, 3, none⟩ (.int .i64 (max 0 (min 0 1099511627776)))).setCell ⟨px, 6, none⟩ (.int .u64 1)).drew) ∧ ((((w1.setCell ⟨wb, 2, none⟩ (.bool true)).setCell ⟨wb, 3, none⟩ (.int .i64 (max 0 (min 0 1099511627776)))).setCell ⟨px, 6, none⟩ (.int .u64 1)).drew).heap[px]? = some (.cells #[.int .i64 2, .int .i64 0, .int .i64 2, .pointer (some ⟨wb, 0, none⟩), .int .i64 0, .int .i64 0, .int .u64 1] 92 (0, 0)) ∧ ((((w1.setCell ⟨wb, 2, none⟩ (.bool true)).setCell ⟨wb, 3, none⟩ (.int .i64 (max 0 (min 0 1099511627776)))).setCell ⟨px, 6, none⟩ (.int .u64 1)).drew).heap[wb]? = some (.cells #[.int .u8 0, .int .u64 s, .bool true, .int .i64 (max 0 (min 0 1099511627776))] 95 (0, 0)) ∧ ((((w1.setCell ⟨wb, 2, none⟩ (.bool true)).setCell ⟨wb, 3, none⟩ (.int .i64 (max 0 (min 0 1099511627776)))).setCell ⟨px, 6, none⟩ (.int .u64 1)).drew).heap[w.heap.size]? = some (.cells #[.int .u8 0, .int .u64 0] 40 (0, 0))) := asked_world HB.out.1 HB.out.2.1 HB.out.2.2.1 HB.out.2.2.2 (by omega) hne (by omega) (by omega)
    have hH := HH.out _ HQ.out.1 (by rw [cell_of_row _ _ 0 _ _ _ HQ.out.2.1]; rfl) (by rw [cell_of_row _ _ 1 _ _ _ HQ.out.2.1]; rfl)
    go_wp2_with (go_at_call 58; go_loud ((with_reducible refine hH.mono ?_); rintro e w2 ⟨g, o, c, rfl, hg, hk2⟩; have H2 : Hid (w2.cell? ⟨g, o, none⟩ = some (.int .i64 1) ∧ Kept (fun k => k = px) w w2 ∧ w2.heap[px]? = some (.cells #[.int .i64 2, .int .i64 0, .int .i64 2, .pointer (some ⟨wb, 0, none⟩), .int .i64 0, .int .i64 0, .int .u64 1] 92 (0, 0)) ∧ w2.heap[wb]? = some (.cells #[.int .u8 0, .int .u64 s, .bool true, .int .i64 (max 0 (min 0 1099511627776))] 95 (0, 0)) ∧ w2.heap[w.heap.size]? = some (.cells #[.int .u8 0, .int .u64 0] 40 (0, 0))) := ⟨hg, HQ.out.1.trans hk2.no, (hk2.block _ (lt_of_heap HQ.out.2.1) id).trans HQ.out.2.1, (hk2.block _ (lt_of_heap HQ.out.2.2.1) id).trans HQ.out.2.2.1, (hk2.block _ (lt_of_heap HQ.out.2.2.2) id).trans HQ.out.2.2.2⟩; clear hg hk2))
    have n0 : w2.drew.cell? ⟨px, 0, none⟩ = some (.int .i64 2) := by rw [World.cell?_drew, cell_of_row _ _ 0 _ _ _ H2.out.2.2.1]; rfl
    have n5 : w2.drew.cell? ⟨px, 5, none⟩ = some (.int .i64 0) := by rw [World.cell?_drew, cell_of_row _ _ 5 _ _ _ H2.out.2.2.1]; rfl
    clear HQ hH q3 q6 b0 b1 b2 b3 f2 f3 f6
    refine wp_region_plan No (.pur 0 (.pur 1 (.pur 2 (.pur 4 (.pur 5 (.pur 6 (.pur 9 (.pur 10 (.pur 11 (.pur 16 (.rd 3 (.rd 7 (.rd 12 (.fork 8 13 (.grow 13 (.act 14 (.rd 15 .fin))) (.grow 8 (.act 14 (.rd 15 .fin))))))))))))))))) [14] mixed (by kernel_rfl) ?_
    repeat ((first | refine pl_pur (by simp only [List.getD_cons_succ, List.getD_cons_zero]; rfl) _ (by rfl) (fun W => by go_simp; with_reducible rfl) ?_ | refine pl_rd (by simp only [List.getD_cons_succ, List.getD_cons_zero]; rfl) _ (by rfl) (fun W hW => by have hc := hW.cell (n0) id; clear hW; go_simp; with_reducible rfl) ?_ | refine pl_rd (by simp only [List.getD_cons_succ, List.getD_cons_zero]; rfl) _ (by rfl) (fun W hW => by have hc := hW.cell (n5) id; clear hW; go_simp; with_reducible rfl) ?_); simp only [Act.put, List.setIfInBounds_toArray, List.set_cons_zero, List.set_cons_succ])
    clear n0 n5
    refine pl_fork (by simp only [List.getD_cons_succ, List.getD_cons_zero]; rfl) (by simp only [List.getD_cons_succ, List.getD_cons_zero]; rfl) ?_ ?_
    · go_wp2_with (go_at_call 59; ((with_reducible refine (way2_0 _).mono ?_); rintro e w3 ⟨v1, rfl, ht1, hf1, hk1⟩))
      refine GPost.mk hk1 ?_
      have H1 : Hid (TW (kI .i64) 3 (w3.alloc (.cells #[.int .i64 0] 3)) No v1 [1] ∧ Fresh w2 v1 ∧ Kept No w2 (w3.alloc (.cells #[.int .i64 0] 3))) := ⟨ht1.new ((Kept.refl _ _).alloc _), hf1, ((Kept.refl No w2).drew.trans hk1).alloc _⟩
      clear ht1 hf1 hk1
      obtain ⟨A1, m1, c1, e1⟩ : ∃ A n c, v1 = .slice A n c := by obtain ⟨A, c, h, _⟩ := H1.out.1.slice; exact ⟨A, _, c, h⟩
      subst e1
      refine pl_grow (by simp only [List.getD_cons_succ, List.getD_cons_zero]; rfl) ?_
      go_wp2
      refine GPost.mk ((Kept.refl _ _).alloc _) ?_
      refine pl_act (by simp only [List.getD_cons_succ, List.getD_cons_zero]; rfl) ?_
      refine wpList_append_tw (d := kI .i64) (G := No) (F := fun k' => k' = w3.heap.size) rfl (.tmp 111) (.tmp 116) 42 rfl 3 (.int .i64 0) 8 Try.underlying42 info_i64 rfl _ _ 1 _ [(0 : Int)] [.int .i64 0] rfl H1.out.1 rfl (src_new rfl) (reps_ints (by simp [inr_i64])) rfl (fun _ h => h.elim) (by decide) (by decide) ?_
      intro v2 w4 ht2 hk2' hb2
      have HF : Hid (TW (kI .i64) 3 w4 No v2 [1, 0] ∧ Kept No w2 w4) := ⟨ht2, H1.out.2.2.fresh hk2' H1.out.2.1⟩
      obtain ⟨g2, o2, c2, rfl, hg0, _⟩ := two_sl HF.out.1.sl
      have HG : Hid (w4.cell? ⟨g2, o2, none⟩ = some (.int .i64 1) ∧ w4.cell? ⟨g, o, none⟩ = some (.int .i64 1) ∧ Kept (fun k => k = px) w w4 ∧ w4.heap[px]? = some (.cells #[.int .i64 2, .int .i64 0, .int .i64 2, .pointer (some ⟨wb, 0, none⟩), .int .i64 0, .int .i64 0, .int .u64 1] 92 (0, 0)) ∧ w4.heap[wb]? = some (.cells #[.int .u8 0, .int .u64 s, .bool true, .int .i64 (max 0 (min 0 1099511627776))] 95 (0, 0)) ∧ w4.heap[w.heap.size]? = some (.cells #[.int .u8 0, .int .u64 0] 40 (0, 0))) :=
        ⟨hg0, HF.out.2.cell H2.out.1 id, H2.out.2.1.trans HF.out.2.no, (HF.out.2.block _ (lt_of_heap H2.out.2.2.1) id).trans H2.out.2.2.1, (HF.out.2.block _ (lt_of_heap H2.out.2.2.2.1) id).trans H2.out.2.2.2.1, (HF.out.2.block _ (lt_of_heap H2.out.2.2.2.2) id).trans H2.out.2.2.2.2⟩
      clear ht2 hk2' hb2 hg0 H1
      refine APost.mk ?_
      repeat ((first | refine pl_pur (by simp only [List.getD_cons_succ, List.getD_cons_zero]; rfl) _ (by rfl) (fun W => by go_simp; with_reducible rfl) ?_ | refine pl_rd (by simp only [List.getD_cons_succ, List.getD_cons_zero]; rfl) _ (by rfl) (fun W hW => by have hc := kcell hW; clear hW; go_simp; with_reducible rfl) ?_); simp only [Act.put, List.setIfInBounds_toArray, List.set_cons_zero, List.set_cons_succ])
      refine pl_fin ?_
      go_wp2
      go_loopw [119] (fun i wr => i = .int .i64 0 ∧ w4 = wr) (fun _ _ => 0)
      case atStart => exact ⟨rfl, rfl⟩
      case round =>
        obtain ⟨rfl, rfl⟩ := hrel
        have z0 := HG.out.1
        have z5 : w4.cell? ⟨px, 5, none⟩ = some (.int .i64 0) := by rw [cell_of_row _ _ 5 _ _ _ HG.out.2.2.2.1]; rfl
        have zf := frozen_of_row w4 px 5 _ _ HG.out.2.2.2.1
        go_wp2_with (go_at_call 60; ((with_reducible refine (contains_first g o 1 c 1 w4 (Nat.le_refl _) HG.out.2.1).mono ?_); rintro e w5 ⟨rfl, rfl⟩))
        have hp5 : (w4.setCell ⟨px, 5, none⟩ (.int .i64 1)).heap[px]? = some (.cells #[.int .i64 2, .int .i64 0, .int .i64 2, .pointer (some ⟨wb, 0, none⟩), .int .i64 0, .int .i64 1, .int .u64 1] 92 (0, 0)) := heap_setCell_same w4 px 5 _ 92 _ HG.out.2.2.2.1
        have hw5 : (w4.setCell ⟨px, 5, none⟩ (.int .i64 1)).heap[wb]? = some (.cells #[.int .u8 0, .int .u64 s, .bool true, .int .i64 (max 0 (min 0 1099511627776))] 95 (0, 0)) := (Below.heap_setCell _ _ _ _ hne).trans HG.out.2.2.2.2.1
        have ht5 : (w4.setCell ⟨px, 5, none⟩ (.int .i64 1)).heap[w.heap.size]? = some (.cells #[.int .u8 0, .int .u64 0] 40 (0, 0)) := (Below.heap_setCell _ _ _ _ (by simp only; omega)).trans HG.out.2.2.2.2.2
        have hk5 : Kept (fun k => k = px) w (w4.setCell ⟨px, 5, none⟩ (.int .i64 1)) := HG.out.2.2.1.setCell (p := ⟨px, 5, none⟩) (fun _ => rfl) _
        obtain ⟨w5, hw5e⟩ : ∃ w5, w5 = w4.setCell ⟨px, 5, none⟩ (.int .i64 1) := ⟨_, rfl⟩
        rw [← hw5e] at hp5 hw5 ht5 hk5 ⊢
        clear hw5e z0 z5 zf
        have u5 : w5.drew.cell? ⟨px, 5, none⟩ = some (.int .i64 1) := by rw [World.cell?_drew, cell_of_row _ _ 5 _ _ _ hp5]; rfl
        have v0 : w5.drew.cell? ⟨wb, 0, none⟩ = some (.int .u8 0) := by rw [World.cell?_drew, cell_of_row _ _ 0 _ _ _ hw5]; rfl
        have v1 : w5.drew.cell? ⟨wb, 1, none⟩ = some (.int .u64 s) := by rw [World.cell?_drew, cell_of_row _ _ 1 _ _ _ hw5]; rfl
        have HT5 : Hid (w5.drew.heap[w.heap.size]? = some (.cells #[.int .u8 0, .int .u64 0] 40 (0, 0))) := ht5
        have t0 : w5.drew.cell? ⟨w.heap.size, 0, none⟩ = some (.int .u8 0) := by rw [World.cell?_drew, cell_of_row _ _ 0 _ _ _ ht5]; rfl
        have t1 : w5.drew.cell? ⟨w.heap.size, 1, none⟩ = some (.int .u64 0) := by rw [World.cell?_drew, cell_of_row _ _ 1 _ _ _ ht5]; rfl
        have tf0 : w5.drew.frozen? ⟨w.heap.size, 0, none⟩ = false := frozen_of_row w5 w.heap.size 0 _ _ ht5
        have tf1 : w5.drew.frozen? ⟨w.heap.size, 1, none⟩ = false := frozen_of_row w5 w.heap.size 1 _ _ ht5
        have HK5 : Hid (Kept (fun k => k = px) w w5) := hk5
        clear hp5 hw5 ht5 hk5
        refine wp_region_plan (fun k => k = w.heap.size) (.pur 0 (.pur 1 (.pur 2 (.pur 4 (.pur 5 (.pur 6 (.rd 3 (.rd 7 (.grow 8 (.pur 9 (.pur 10 .fin))))))))))) [] mixed (by kernel_rfl) ?_
        repeat ((first | refine pl_pur (by simp only [List.getD_cons_succ, List.getD_cons_zero]; rfl) _ (by rfl) (fun W => by go_simp; with_reducible rfl) ?_ | refine pl_rd (by simp only [List.getD_cons_succ, List.getD_cons_zero]; rfl) _ (by rfl) (fun W hW => by have hc := kcell hW; clear hW; go_simp; with_reducible rfl) ?_); simp only [Act.put, List.setIfInBounds_toArray, List.set_cons_zero, List.set_cons_succ])
        refine pl_load_whole (by simp only [List.getD_cons_succ, List.getD_cons_zero]; rfl) (by rfl) (.tmp 133) 40 (by rfl) wb 0 (by rfl) _ agg40' (two_cells' v0 v1) (by omega) ?_
        simp only [Act.put, List.setIfInBounds_toArray, List.set_cons_zero, List.set_cons_succ]
        refine pl_rd (by simp only [List.getD_cons_succ, List.getD_cons_zero]; rfl) _ (by rfl) (fun W hW => by have hc := hW.cell u5 (fun e => by have e : px = w.heap.size := e; omega); clear hW; go_simp; with_reducible rfl) ?_
        simp only [Act.put, List.setIfInBounds_toArray, List.set_cons_zero, List.set_cons_succ]
        refine pl_grow (by simp only [List.getD_cons_succ, List.getD_cons_zero]; rfl) ?_
        refine wpList_store_whole (by rfl) (.tmp 10) (.tmp 134) 40 (by rfl) w.heap.size 0 40 (by rfl) [.int .u8 0, .int .u64 s] (by rfl) agg40' #[.int .u8 0, .int .u64 0] HT5.out (by simp) (by simp [Value.oneCell']) ?_
        intro w6 HW6
        have n6 := new_row (w := w5.drew) (z := #[.int .u8 0, .int .u64 0]) HT5.out (by rfl) HW6.out
        refine GPost.mk (n6.2.2 _ rfl) ?_
        have H6 : Hid (w6.cell? ⟨w.heap.size, 0, none⟩ = some (.int .u8 0) ∧ w6.cell? ⟨w.heap.size, 1, none⟩ = some (.int .u64 s) ∧ Kept (fun k => k = px) w w6) := ⟨by rw [cell_of_row _ _ 0 _ _ _ n6.1]; rfl, by rw [cell_of_row _ _ 1 _ _ _ n6.1]; rfl, HK5.out.drew.trans2 (n6.2.2 (fun k => k = w.heap.size) rfl) (fun i hi e => absurd hi (by have e : i = w.heap.size := e; omega))⟩
        clear n6 HW6
        repeat ((first | refine pl_pur (by simp only [List.getD_cons_succ, List.getD_cons_zero]; rfl) _ (by rfl) (fun W => by go_simp; with_reducible rfl) ?_ | refine pl_rd (by simp only [List.getD_cons_succ, List.getD_cons_zero]; rfl) _ (by rfl) (fun W hW => by have hc := kcell hW; clear hW; go_simp; with_reducible rfl) ?_); simp only [Act.put, List.setIfInBounds_toArray, List.set_cons_zero, List.set_cons_succ])
        refine pl_fin ?_
        go_wp2
        refine bodyPost_ret (res_cell_tmp2 (by rfl) _ _ w.heap.size 0 (by rfl) [.int .u8 0, .int .u64 s] agg40' (two_cells' H6.out.1 H6.out.2.1)) rfl ?_
        exact ⟨rfl, H6.out.2.2⟩
    · go_wp2
      refine GPost.mk ((Kept.refl _ _).alloc _) ?_
      refine pl_grow (by simp only [List.getD_cons_succ, List.getD_cons_zero]; rfl) ?_
      go_wp2_with (go_at_call 59; ((with_reducible refine (way2_0 _).mono ?_); rintro e w3 ⟨v1, rfl, ht1, hf1, hk1⟩))
      refine GPost.mk hk1 ?_
      have hwa : Kept No w2 (w2.alloc (.cells #[.int .i64 0] 3)) := (Kept.refl _ _).alloc _
      have H1 : Hid (TW (kI .i64) 3 w3 No v1 [1] ∧ Fresh w2 v1 ∧ Kept No w2 w3 ∧ Src w3 (fun k' => k' = w2.heap.size) 1 (.slice (some ⟨w2.heap.size, 0, none⟩) 1 1) 1 [.int .i64 0]) := ⟨ht1, fun k hk => Nat.le_trans hwa.size (by simpa using hf1 k hk), (hwa.drew).trans hk1, (src_new (w := w2) (e := 3) (c := .int .i64 0) rfl).move fun k hk hlt => hk1.block k hlt id⟩
      clear ht1 hf1 hk1 hwa
      obtain ⟨A1, m1, c1, e1⟩ : ∃ A n c, v1 = .slice A n c := by obtain ⟨A, c, h, _⟩ := H1.out.1.slice; exact ⟨A, _, c, h⟩
      subst e1
      refine pl_act (by simp only [List.getD_cons_succ, List.getD_cons_zero]; rfl) ?_
      refine wpList_append_tw (d := kI .i64) (G := No) (F := fun k' => k' = w2.heap.size) rfl (.tmp 111) (.tmp 116) 42 rfl 3 (.int .i64 0) 8 Try.underlying42 info_i64 rfl _ _ 1 _ [(0 : Int)] [.int .i64 0] rfl H1.out.1 rfl H1.out.2.2.2 (reps_ints (by simp [inr_i64])) rfl (fun _ h => h.elim) (by decide) (by decide) ?_
      intro v2 w4 ht2 hk2' hb2
      have HF : Hid (TW (kI .i64) 3 w4 No v2 [1, 0] ∧ Kept No w2 w4) := ⟨ht2, H1.out.2.2.1.fresh hk2' H1.out.2.1⟩
      obtain ⟨g2, o2, c2, rfl, hg0, _⟩ := two_sl HF.out.1.sl
      have HG : Hid (w4.cell? ⟨g2, o2, none⟩ = some (.int .i64 1) ∧ w4.cell? ⟨g, o, none⟩ = some (.int .i64 1) ∧ Kept (fun k => k = px) w w4 ∧ w4.heap[px]? = some (.cells #[.int .i64 2, .int .i64 0, .int .i64 2, .pointer (some ⟨wb, 0, none⟩), .int .i64 0, .int .i64 0, .int .u64 1] 92 (0, 0)) ∧ w4.heap[wb]? = some (.cells #[.int .u8 0, .int .u64 s, .bool true, .int .i64 (max 0 (min 0 1099511627776))] 95 (0, 0)) ∧ w4.heap[w.heap.size]? = some (.cells #[.int .u8 0, .int .u64 0] 40 (0, 0))) :=
        ⟨hg0, HF.out.2.cell H2.out.1 id, H2.out.2.1.trans HF.out.2.no, (HF.out.2.block _ (lt_of_heap H2.out.2.2.1) id).trans H2.out.2.2.1, (HF.out.2.block _ (lt_of_heap H2.out.2.2.2.1) id).trans H2.out.2.2.2.1, (HF.out.2.block _ (lt_of_heap H2.out.2.2.2.2) id).trans H2.out.2.2.2.2⟩
      clear ht2 hk2' hb2 hg0 H1
      refine APost.mk ?_
      repeat ((first | refine pl_pur (by simp only [List.getD_cons_succ, List.getD_cons_zero]; rfl) _ (by rfl) (fun W => by go_simp; with_reducible rfl) ?_ | refine pl_rd (by simp only [List.getD_cons_succ, List.getD_cons_zero]; rfl) _ (by rfl) (fun W hW => by have hc := kcell hW; clear hW; go_simp; with_reducible rfl) ?_); simp only [Act.put, List.setIfInBounds_toArray, List.set_cons_zero, List.set_cons_succ])
      refine pl_fin ?_
      go_wp2
      go_loopw [119] (fun i wr => i = .int .i64 0 ∧ w4 = wr) (fun _ _ => 0)
      case atStart => exact ⟨rfl, rfl⟩
      case round =>
        obtain ⟨rfl, rfl⟩ := hrel
        have z0 := HG.out.1
        have z5 : w4.cell? ⟨px, 5, none⟩ = some (.int .i64 0) := by rw [cell_of_row _ _ 5 _ _ _ HG.out.2.2.2.1]; rfl
        have zf := frozen_of_row w4 px 5 _ _ HG.out.2.2.2.1
        go_wp2_with (go_at_call 60; ((with_reducible refine (contains_first g o 1 c 1 w4 (Nat.le_refl _) HG.out.2.1).mono ?_); rintro e w5 ⟨rfl, rfl⟩))
        have hp5 : (w4.setCell ⟨px, 5, none⟩ (.int .i64 1)).heap[px]? = some (.cells #[.int .i64 2, .int .i64 0, .int .i64 2, .pointer (some ⟨wb, 0, none⟩), .int .i64 0, .int .i64 1, .int .u64 1] 92 (0, 0)) := heap_setCell_same w4 px 5 _ 92 _ HG.out.2.2.2.1
        have hw5 : (w4.setCell ⟨px, 5, none⟩ (.int .i64 1)).heap[wb]? = some (.cells #[.int .u8 0, .int .u64 s, .bool true, .int .i64 (max 0 (min 0 1099511627776))] 95 (0, 0)) := (Below.heap_setCell _ _ _ _ hne).trans HG.out.2.2.2.2.1
        have ht5 : (w4.setCell ⟨px, 5, none⟩ (.int .i64 1)).heap[w.heap.size]? = some (.cells #[.int .u8 0, .int .u64 0] 40 (0, 0)) := (Below.heap_setCell _ _ _ _ (by simp only; omega)).trans HG.out.2.2.2.2.2
        have hk5 : Kept (fun k => k = px) w (w4.setCell ⟨px, 5, none⟩ (.int .i64 1)) := HG.out.2.2.1.setCell (p := ⟨px, 5, none⟩) (fun _ => rfl) _
        obtain ⟨w5, hw5e⟩ : ∃ w5, w5 = w4.setCell ⟨px, 5, none⟩ (.int .i64 1) := ⟨_, rfl⟩
        rw [← hw5e] at hp5 hw5 ht5 hk5 ⊢
        clear hw5e z0 z5 zf
        have u5 : w5.drew.cell? ⟨px, 5, none⟩ = some (.int .i64 1) := by rw [World.cell?_drew, cell_of_row _ _ 5 _ _ _ hp5]; rfl
        have v0 : w5.drew.cell? ⟨wb, 0, none⟩ = some (.int .u8 0) := by rw [World.cell?_drew, cell_of_row _ _ 0 _ _ _ hw5]; rfl
        have v1 : w5.drew.cell? ⟨wb, 1, none⟩ = some (.int .u64 s) := by rw [World.cell?_drew, cell_of_row _ _ 1 _ _ _ hw5]; rfl
        have HT5 : Hid (w5.drew.heap[w.heap.size]? = some (.cells #[.int .u8 0, .int .u64 0] 40 (0, 0))) := ht5
        have t0 : w5.drew.cell? ⟨w.heap.size, 0, none⟩ = some (.int .u8 0) := by rw [World.cell?_drew, cell_of_row _ _ 0 _ _ _ ht5]; rfl
        have t1 : w5.drew.cell? ⟨w.heap.size, 1, none⟩ = some (.int .u64 0) := by rw [World.cell?_drew, cell_of_row _ _ 1 _ _ _ ht5]; rfl
        have tf0 : w5.drew.frozen? ⟨w.heap.size, 0, none⟩ = false := frozen_of_row w5 w.heap.size 0 _ _ ht5
        have tf1 : w5.drew.frozen? ⟨w.heap.size, 1, none⟩ = false := frozen_of_row w5 w.heap.size 1 _ _ ht5
        have HK5 : Hid (Kept (fun k => k = px) w w5) := hk5
        clear hp5 hw5 ht5 hk5
        refine wp_region_plan (fun k => k = w.heap.size) (.pur 0 (.pur 1 (.pur 2 (.pur 4 (.pur 5 (.pur 6 (.rd 3 (.rd 7 (.grow 8 (.pur 9 (.pur 10 .fin))))))))))) [] mixed (by kernel_rfl) ?_
        repeat ((first | refine pl_pur (by simp only [List.getD_cons_succ, List.getD_cons_zero]; rfl) _ (by rfl) (fun W => by go_simp; with_reducible rfl) ?_ | refine pl_rd (by simp only [List.getD_cons_succ, List.getD_cons_zero]; rfl) _ (by rfl) (fun W hW => by have hc := kcell hW; clear hW; go_simp; with_reducible rfl) ?_); simp only [Act.put, List.setIfInBounds_toArray, List.set_cons_zero, List.set_cons_succ])
        refine pl_load_whole (by simp only [List.getD_cons_succ, List.getD_cons_zero]; rfl) (by rfl) (.tmp 133) 40 (by rfl) wb 0 (by rfl) _ agg40' (two_cells' v0 v1) (by omega) ?_
        simp only [Act.put, List.setIfInBounds_toArray, List.set_cons_zero, List.set_cons_succ]
        refine pl_rd (by simp only [List.getD_cons_succ, List.getD_cons_zero]; rfl) _ (by rfl) (fun W hW => by have hc := hW.cell u5 (fun e => by have e : px = w.heap.size := e; omega); clear hW; go_simp; with_reducible rfl) ?_
        simp only [Act.put, List.setIfInBounds_toArray, List.set_cons_zero, List.set_cons_succ]
        refine pl_grow (by simp only [List.getD_cons_succ, List.getD_cons_zero]; rfl) ?_
        refine wpList_store_whole (by rfl) (.tmp 10) (.tmp 134) 40 (by rfl) w.heap.size 0 40 (by rfl) [.int .u8 0, .int .u64 s] (by rfl) agg40' #[.int .u8 0, .int .u64 0] HT5.out (by simp) (by simp [Value.oneCell']) ?_
        intro w6 HW6
        have n6 := new_row (w := w5.drew) (z := #[.int .u8 0, .int .u64 0]) HT5.out (by rfl) HW6.out
        refine GPost.mk (n6.2.2 _ rfl) ?_
        have H6 : Hid (w6.cell? ⟨w.heap.size, 0, none⟩ = some (.int .u8 0) ∧ w6.cell? ⟨w.heap.size, 1, none⟩ = some (.int .u64 s) ∧ Kept (fun k => k = px) w w6) := ⟨by rw [cell_of_row _ _ 0 _ _ _ n6.1]; rfl, by rw [cell_of_row _ _ 1 _ _ _ n6.1]; rfl, HK5.out.drew.trans2 (n6.2.2 (fun k => k = w.heap.size) rfl) (fun i hi e => absurd hi (by have e : i = w.heap.size := e; omega))⟩
        clear n6 HW6
        repeat ((first | refine pl_pur (by simp only [List.getD_cons_succ, List.getD_cons_zero]; rfl) _ (by rfl) (fun W => by go_simp; with_reducible rfl) ?_ | refine pl_rd (by simp only [List.getD_cons_succ, List.getD_cons_zero]; rfl) _ (by rfl) (fun W hW => by have hc := kcell hW; clear hW; go_simp; with_reducible rfl) ?_); simp only [Act.put, List.setIfInBounds_toArray, List.set_cons_zero, List.set_cons_succ])
        refine pl_fin ?_
        go_wp2
        refine bodyPost_ret (res_cell_tmp2 (by rfl) _ _ w.heap.size 0 (by rfl) [.int .u8 0, .int .u64 s] agg40' (two_cells' H6.out.1 H6.out.2.1)) rfl ?_
        exact ⟨rfl, H6.out.2.2⟩
end Go.Proofs.Ytfnecdkfhackkaa
