/- The reference of the package matrix, eighth part: New. -/
import Derived.Test.YtfnecdkfhackkaaR18g
import Derived.Test.YtfnecdkfhackkaaMRises
set_option linter.unusedVariables false
set_option linter.unusedSimpArgs false
namespace Go.Proofs.Ytfnecdkfhackkaa
open Go.RowKit

theorem src_new4 {w : World} {e : TypeId} {a b c d : Value} (h : ∀ u ∈ [a, b, c, d], u.oneCell' = true) : Src (w.alloc (.cells #[a, b, c, d] e)) (fun k => k = w.heap.size) 4 (.slice (some ⟨w.heap.size, 0, none⟩) 1 1) 1 [a, b, c, d] := by
  refine ⟨_, 1, rfl, Nat.le_refl _, by decide, rfl, h, fun _ => ⟨w.heap.size, 0, rfl, rfl, fun j u hj => ?_⟩⟩
  have hh := heap_alloc_new w (.cells #[a, b, c, d] e)
  rw [cell_of_row _ _ _ _ _ _ hh]
  simpa using hj
theorem heap_one {w : World} {b : Nat} {v : Value} {e : TypeId} (h : w.heap[b]? = some (.cells #[v] e (0, 0))) : w.cell? ⟨b, 0, none⟩ = some v ∧ w.frozen? ⟨b, 0, none⟩ = false :=
  ⟨by rw [cell_of_row _ _ 0 _ _ _ h]; rfl, frozen_of_row _ _ _ _ _ h⟩
theorem heap_put {w : World} {b : Nat} {v v' : Value} {e : TypeId} (h : w.heap[b]? = some (.cells #[v] e (0, 0))) : (w.setCell ⟨b, 0, none⟩ v').heap[b]? = some (.cells #[v'] e (0, 0)) :=
  heap_setCell_same w b 0 #[v] e v' h
theorem zrow_K {w : World} {F : Nat → Prop} {N : Nat} {va vb : Value} (ha : Sl (kI .u64) w F va (List.replicate N 0)) (hb : Sl (kI .u64) w F vb (List.replicate N 0)) : kRow.K w F (zrow N) [.int .u64 0, va, vb, .bool false] :=
  ⟨_, _, rfl, by simp [inr_u64, zrow], ha, hb⟩

set_option maxRecDepth 20000 in
set_option maxHeartbeats 2000000 in
theorem new18_nat (N : Nat) (hN1 : 1 ≤ N) (hN2 : N ≤ 64) (w : World) : Calls Try.prog 28 #[.int .i64 N] w fun e w' => ∃ A' c', e = .returned (.agg #[.slice A' N c']) ∧ Sl kRow w' (New w w') (.slice A' N c') (List.replicate N (zrow N)) ∧ Kept No w w' := by
  have HZ : Hid (∀ W, Calls Try.prog 52 #[.int .i64 N] W fun e w' => ∃ v', e = .returned v' ∧ TW (kI .u64) 26 w' No v' (List.replicate N 0) ∧ Fresh W v' ∧ Kept No W w') := fun W => zeros_any N (by omega) W
  have h1 := heap_alloc_new (w.alloc (.cells #[.slice none 0 0] 48)) (.cells #[.slice none 0 0] 48)
  simp only [World.size_alloc] at h1
  have h0 : ((w.alloc (.cells #[.slice none 0 0] 48)).alloc (.cells #[.slice none 0 0] 48)).heap[w.heap.size]? = some (.cells #[.slice none 0 0] 48 (0, 0)) := (Below.heap_alloc _ _ _ (by simp)).trans (heap_alloc_new w _)
  have H0 : Hid (((w.alloc (.cells #[.slice none 0 0] 48)).alloc (.cells #[.slice none 0 0] 48)).heap[w.heap.size]? = some (.cells #[.slice none 0 0] 48 (0, 0)) ∧ ((w.alloc (.cells #[.slice none 0 0] 48)).alloc (.cells #[.slice none 0 0] 48)).heap[w.heap.size + 1]? = some (.cells #[.slice none 0 0] 48 (0, 0)) ∧ Kept No w ((w.alloc (.cells #[.slice none 0 0] 48)).alloc (.cells #[.slice none 0 0] 48))) := ⟨h0, h1, ((Kept.refl _ _).alloc _).alloc _⟩
  clear h0 h1
  go_enter Try.func28, Try.ntmps28
  go_wp2
  go_loopw [4] (fun i wr => ∃ k : Nat, k ≤ N ∧ i = .int .i64 k ∧ ∃ v G, wr.heap[w.heap.size + 1]? = some (.cells #[v] 48 (0, 0)) ∧ wr.heap[w.heap.size]? = some (.cells #[.slice none 0 0] 48 (0, 0)) ∧ TW kRow 54 wr G v (List.replicate k (zrow N)) ∧ (∀ j, G j → w.heap.size + 1 < j ∧ j < wr.heap.size) ∧ (∀ j, v.ownBlock = some j → w.heap.size + 1 < j) ∧ Kept No w wr) (fun i _ => N - (intOf i).toNat)
  case atStart => exact ⟨0, Nat.zero_le _, rfl, .slice none 0 0, No, H0.out.2.1, H0.out.1, TW.nil _ _ _ _, fun j h => h.elim, fun j h => by simp [Value.ownBlock] at h, H0.out.2.2⟩
  case round =>
    obtain ⟨k, hk, rfl, v, G, hB, hA, htw, hG, hob, hke⟩ := hrel
    have hBlt := lt_of_heap hB
    obtain ⟨A0, n0, c0, e0⟩ : ∃ A n c, v = .slice A n c := by obtain ⟨A, c, h, _⟩ := htw.slice; exact ⟨A, _, c, h⟩
    subst e0
    by_cases hlt : k < N
    · have q0 : wr.drew.cell? ⟨w.heap.size + 1, 0, none⟩ = some (.slice A0 n0 c0) := (heap_one hB).1
      have HQ : Hid (wr.heap[w.heap.size + 1]? = some (.cells #[.slice A0 n0 c0] 48 (0, 0)) ∧ wr.heap[w.heap.size]? = some (.cells #[.slice none 0 0] 48 (0, 0)) ∧ TW kRow 54 wr G (.slice A0 n0 c0) (List.replicate k (zrow N)) ∧ (∀ j, G j → w.heap.size + 1 < j ∧ j < wr.heap.size) ∧ (∀ j, (Value.slice A0 n0 c0).ownBlock = some j → w.heap.size + 1 < j) ∧ Kept No w wr) := ⟨hB, hA, htw, hG, hob, hke⟩
      clear hB hA htw hG hob hke
      go_wp2
      refine wp_region_plan No (.pur 0 (.pur 2 (.pur 4 (.rd 1 (.grow 3 (.grow 5 (.pur 6 (.grow 7 (.act 8 (.pur 9 (.act 10 .fin))))))))))) [8, 10] mixed (by kernel_rfl) ?_
      repeat ((first | refine pl_pur (by simp only [List.getD_cons_succ, List.getD_cons_zero]; rfl) _ (by rfl) (fun W => by go_simp; with_reducible rfl) ?_ | refine pl_rd (by simp only [List.getD_cons_succ, List.getD_cons_zero]; rfl) _ (by rfl) (fun W hW => by have hc := hW.cell (q0) id; clear hW; go_simp; with_reducible rfl) ?_); simp only [Act.put, List.setIfInBounds_toArray, List.set_cons_zero, List.set_cons_succ])
      refine pl_grow (by simp only [List.getD_cons_succ, List.getD_cons_zero]; rfl) ?_
      go_wp2_with (go_at_call 52; ((with_reducible refine (HZ.out _).mono ?_); rintro e w2 ⟨v18, rfl, ht2, hf2, hk2⟩))
      refine GPost.mk hk2 ?_
      have H2 : Hid (TW (kI .u64) 26 w2 No v18 (List.replicate N 0) ∧ Fresh wr v18 ∧ Kept No wr w2) := ⟨ht2, hf2, (Kept.refl No wr).drew.trans hk2⟩
      obtain ⟨A2, n2, c2, e2⟩ : ∃ A n c, v18 = .slice A n c := by obtain ⟨A, c, h, _⟩ := ht2.slice; exact ⟨A, _, c, h⟩
      subst e2
      clear ht2 hf2 hk2 q0
      repeat ((first | refine pl_pur (by simp only [List.getD_cons_succ, List.getD_cons_zero]; rfl) _ (by rfl) (fun W => by go_simp; with_reducible rfl) ?_ | refine pl_rd (by simp only [List.getD_cons_succ, List.getD_cons_zero]; rfl) _ (by rfl) (fun W hW => by have hc := kcell hW; clear hW; go_simp; with_reducible rfl) ?_); simp only [Act.put, List.setIfInBounds_toArray, List.set_cons_zero, List.set_cons_succ])
      refine pl_grow (by simp only [List.getD_cons_succ, List.getD_cons_zero]; rfl) ?_
      go_wp2_with (go_at_call 52; ((with_reducible refine (HZ.out _).mono ?_); rintro e w3 ⟨v20, rfl, ht3, hf3, hk3⟩))
      refine GPost.mk hk3 ?_
      have H3 : Hid (TW (kI .u64) 26 w3 No v20 (List.replicate N 0) ∧ Fresh w2 v20 ∧ Kept No w2 w3) := ⟨ht3, hf3, hk3⟩
      obtain ⟨A3, n3, c3, e3⟩ : ∃ A n c, v20 = .slice A n c := by obtain ⟨A, c, h, _⟩ := ht3.slice; exact ⟨A, _, c, h⟩
      subst e3
      clear ht3 hf3 hk3
      repeat ((first | refine pl_pur (by simp only [List.getD_cons_succ, List.getD_cons_zero]; rfl) _ (by rfl) (fun W => by go_simp; with_reducible rfl) ?_ | refine pl_rd (by simp only [List.getD_cons_succ, List.getD_cons_zero]; rfl) _ (by rfl) (fun W hW => by have hc := kcell hW; clear hW; go_simp; with_reducible rfl) ?_); simp only [Act.put, List.setIfInBounds_toArray, List.set_cons_zero, List.set_cons_succ])
      refine pl_grow (by simp only [List.getD_cons_succ, List.getD_cons_zero]; rfl) ?_
      go_wp2
      refine GPost.mk ((Kept.refl _ _).alloc _) ?_
      repeat ((first | refine pl_pur (by simp only [List.getD_cons_succ, List.getD_cons_zero]; rfl) _ (by rfl) (fun W => by go_simp; with_reducible rfl) ?_ | refine pl_rd (by simp only [List.getD_cons_succ, List.getD_cons_zero]; rfl) _ (by rfl) (fun W hW => by have hc := kcell hW; clear hW; go_simp; with_reducible rfl) ?_); simp only [Act.put, List.setIfInBounds_toArray, List.set_cons_zero, List.set_cons_succ])
      have hk4 : Kept No wr (w3.alloc (.cells #[.int .u64 0, .slice A2 n2 c2, .slice A3 n3 c3, .bool false] 54)) := (H2.out.2.2.trans H3.out.2.2).alloc _
      have HK4 : Hid (Kept No wr (w3.alloc (.cells #[.int .u64 0, .slice A2 n2 c2, .slice A3 n3 c3, .bool false] 54))) := hk4
      have hs3 : wr.heap.size ≤ w3.heap.size := (H2.out.2.2.trans H3.out.2.2).size
      have HG' : Hid (TW kRow 54 (w3.alloc (.cells #[.int .u64 0, .slice A2 n2 c2, .slice A3 n3 c3, .bool false] 54)) (fun j => G j ∨ (wr.heap.size ≤ j ∧ j < w3.heap.size)) (.slice A0 n0 c0) (List.replicate k (zrow N)) ∧ Reps (kRow.K (w3.alloc (.cells #[.int .u64 0, .slice A2 n2 c2, .slice A3 n3 c3, .bool false] 54)) (fun j => G j ∨ (wr.heap.size ≤ j ∧ j < w3.heap.size))) 4 [zrow N] [.int .u64 0, .slice A2 n2 c2, .slice A3 n3 c3, .bool false]) := by
        refine ⟨(HQ.out.2.2.1.new hk4).gmono (fun j hj _ => .inl hj) (fun j hj hg => ?_), Reps.single (zrow_K ?_ ?_) rfl⟩
        · rcases hg with hg | hg
          · obtain ⟨_, _, _, h4⟩ := HQ.out.2.2.1
            exact h4 j hj hg
          · have := (HQ.out.2.2.1.lt j hj).1; omega
        · exact (H2.out.1.sl.new (H3.out.2.2.alloc _)).mono fun j hj _ => hj.elim (fun e => .inr ⟨H2.out.2.1 j e, Nat.lt_of_lt_of_le (H2.out.1.lt j e).1 H3.out.2.2.size⟩) (fun h => h.elim)
        · exact (H3.out.1.sl.new ((Kept.refl _ _).alloc _)).mono fun j hj _ => hj.elim (fun e => .inr ⟨Nat.le_trans H2.out.2.2.size (H3.out.2.1 j e), (H3.out.1.lt j e).1⟩) (fun h => h.elim)
      have hl64 : (List.replicate k (zrow N)).length ≤ 64 := by simp; omega
      clear hk4
      refine pl_act (by simp only [List.getD_cons_succ, List.getD_cons_zero]; rfl) ?_
      refine wpList_append_tw (d := kRow) (G := fun j => G j ∨ (wr.heap.size ≤ j ∧ j < w3.heap.size)) (F := fun j => j = w3.heap.size) rfl (.tmp 16) (.tmp 22) 46 rfl 54 (.agg #[.int .u64 0, .slice none 0 0, .slice none 0 0, .bool false]) 64 Try.underlying46 info_x rfl _ _ 1 _ [zrow N] [.int .u64 0, .slice A2 n2 c2, .slice A3 n3 c3, .bool false] rfl HG'.out.1 rfl (src_new4 (by simp [Value.oneCell'])) HG'.out.2 rfl (fun j hj => hj.elim (fun h => by have := (HQ.out.2.2.2.1 j h).2; simp; omega) (fun h => by simp; omega)) (by simp only [maxLen]; omega) (by omega) ?_
      intro v5 w5 ht5 hk5 hb5
      rw [← List.replicate_succ'] at ht5
      obtain ⟨g5, o5, c5, e5, _, _, hg5⟩ := ht5.form (by simp)
      subst e5
      have hob5 : ∀ j, (Value.slice (some ⟨g5, o5, none⟩) (List.replicate (k + 1) (zrow N)).length c5).ownBlock = some j → w.heap.size + 1 < j := fun j hj => by
        rcases hb5 with e | e
        · exact HQ.out.2.2.2.2.1 j (e ▸ hj)
        · rw [e] at hj; simp only [Option.some.injEq, World.size_alloc] at hj; omega
      have hB5 : w5.heap[w.heap.size + 1]? = some (.cells #[.slice A0 n0 c0] 48 (0, 0)) := (hk5.block _ (by simp; omega) (fun e => by have := HQ.out.2.2.2.2.1 _ e; omega)).trans ((HK4.out.block _ hBlt id).trans HQ.out.1)
      have hA5 : w5.heap[w.heap.size]? = some (.cells #[.slice none 0 0] 48 (0, 0)) := (hk5.block _ (by simp; omega) (fun e => by have := HQ.out.2.2.2.2.1 _ e; omega)).trans ((HK4.out.block _ (by omega) id).trans HQ.out.2.1)
      have hk05 : Kept No w w5 := (HQ.out.2.2.2.2.2.trans HK4.out).trans2 hk5 (fun i hi e => by have := HQ.out.2.2.2.2.1 _ e; omega)
      have hs5 := hk5.size
      simp only [World.size_alloc] at hs5
      obtain ⟨m5, hm5⟩ : ∃ m, m = (List.replicate (k + 1) (zrow N)).length := ⟨_, rfl⟩
      rw [← hm5] at ht5 hob5 ⊢
      have H5 : Hid (TW kRow 54 w5 (fun j => G j ∨ (wr.heap.size ≤ j ∧ j < w3.heap.size)) (.slice (some ⟨g5, o5, none⟩) m5 c5) (List.replicate (k + 1) (zrow N)) ∧ (∀ j, (Value.slice (some ⟨g5, o5, none⟩) m5 c5).ownBlock = some j → w.heap.size + 1 < j) ∧ w5.heap[w.heap.size + 1]? = some (.cells #[.slice A0 n0 c0] 48 (0, 0)) ∧ w5.heap[w.heap.size]? = some (.cells #[.slice none 0 0] 48 (0, 0)) ∧ Kept No w w5 ∧ w3.heap.size + 1 ≤ w5.heap.size) := ⟨ht5, hob5, hB5, hA5, hk05, hs5⟩
      obtain ⟨x0, x1⟩ := heap_one hB5
      clear ht5 hk5 hb5 hob5 hB5 hA5 hk05 hs5 hm5
      refine APost.mk ?_
      repeat ((first | refine pl_pur (by simp only [List.getD_cons_succ, List.getD_cons_zero]; rfl) _ (by rfl) (fun W => by go_simp; with_reducible rfl) ?_ | refine pl_rd (by simp only [List.getD_cons_succ, List.getD_cons_zero]; rfl) _ (by rfl) (fun W hW => by have hc := kcell hW; clear hW; go_simp; with_reducible rfl) ?_); simp only [Act.put, List.setIfInBounds_toArray, List.set_cons_zero, List.set_cons_succ])
      refine pl_act (by simp only [List.getD_cons_succ, List.getD_cons_zero]; rfl) ?_
      go_wp2
      refine APost.mk (pl_fin ?_)
      go_wp2
      have hkb : Kept (fun j => j = w.heap.size + 1) w5 (w5.setCell ⟨w.heap.size + 1, 0, none⟩ (.slice (some ⟨g5, o5, none⟩) m5 c5)) := (Kept.refl (fun j => j = w.heap.size + 1) w5).setCell (p := ⟨w.heap.size + 1, 0, none⟩) (fun _ => rfl) _
      have HKB : Hid (Kept (fun j => j = w.heap.size + 1) w5 (w5.setCell ⟨w.heap.size + 1, 0, none⟩ (.slice (some ⟨g5, o5, none⟩) m5 c5))) := hkb
      clear hkb
      go_roundw
      case rel =>
        refine ⟨k + 1, by omega, by go_num, _, _, heap_put H5.out.2.2.1, (HKB.out.block _ (lt_of_heap H5.out.2.2.2.1) (fun e => by have e : w.heap.size = w.heap.size + 1 := e; omega)).trans H5.out.2.2.2.1, H5.out.1.kept HKB.out (fun j hj e => by have := H5.out.2.1 j hj; have e : j = w.heap.size + 1 := e; omega) (fun j hj _ e => ?_), fun j hj => ?_, H5.out.2.1, H5.out.2.2.2.2.1.trans2 HKB.out (fun i hi e => by have e : i = w.heap.size + 1 := e; omega)⟩
        · have e : j = w.heap.size + 1 := e
          rcases hj with hj | hj
          · have := (HQ.out.2.2.2.1 j hj).1; omega
          · omega
        · have h6 := H5.out.2.2.2.2.2
          have h7 := HKB.out.size
          rcases hj with hj | hj
          · have := HQ.out.2.2.2.1 j hj; omega
          · omega
      case measure => simp [intOf]; omega
    · have hkn : k = N := by omega
      subst hkn
      obtain ⟨x0, x1⟩ := heap_one hB
      obtain ⟨y0, y1⟩ := heap_one hA
      go_wp2
      refine bodyPost_ret (res_cell (by rfl) _ _ w.heap.size 0 (by rfl) [.slice A0 n0 c0] agg48 (one_cell (World.cell?_setCell_same _ _ _ y0))) rfl ?_
      have hkb : Kept (fun j => j = w.heap.size) wr (wr.setCell ⟨w.heap.size, 0, none⟩ (.slice A0 n0 c0)) := (Kept.refl (fun j => j = w.heap.size) wr).setCell (p := ⟨w.heap.size, 0, none⟩) (fun _ => rfl) _
      have hsl : n0 = k := by
        obtain ⟨A, c, e, _⟩ := htw.slice
        simp only [Value.slice.injEq] at e
        rw [e.2.1]; simp
      subst hsl
      refine ⟨A0, c0, rfl, ((htw.kept hkb (fun j hj e => by have := hob j hj; have e : j = w.heap.size := e; omega) (fun j hj _ e => by have := (hG j hj).1; have e : j = w.heap.size := e; omega)).sl).mono fun j hj hlt => ⟨hj.elim (fun e => by have := hob j e; omega) (fun e => by have := (hG j e).1; omega), hlt⟩, hke.trans2 hkb (fun i hi e => by have e : i = w.heap.size := e; omega)⟩

set_option maxRecDepth 20000 in
set_option maxHeartbeats 2000000 in
theorem new18_low (n : Int) (hn : n < 1) (w : World) : Calls Try.prog 28 #[.int .i64 n] w fun e w' => ∃ A' c', e = .returned (.agg #[.slice A' 1 c']) ∧ Sl kRow w' (New w w') (.slice A' 1 c') (List.replicate 1 (zrow 1)) ∧ Kept No w w' := by
  have HZ : Hid (∀ W, Calls Try.prog 52 #[.int .i64 1] W fun e w' => ∃ v', e = .returned v' ∧ TW (kI .u64) 26 w' No v' (List.replicate 1 0) ∧ Fresh W v' ∧ Kept No W w') := fun W => zeros_any 1 (by omega) W
  have h1 := heap_alloc_new (w.alloc (.cells #[.slice none 0 0] 48)) (.cells #[.slice none 0 0] 48)
  simp only [World.size_alloc] at h1
  have h0 : ((w.alloc (.cells #[.slice none 0 0] 48)).alloc (.cells #[.slice none 0 0] 48)).heap[w.heap.size]? = some (.cells #[.slice none 0 0] 48 (0, 0)) := (Below.heap_alloc _ _ _ (by simp)).trans (heap_alloc_new w _)
  have H0 : Hid (((w.alloc (.cells #[.slice none 0 0] 48)).alloc (.cells #[.slice none 0 0] 48)).heap[w.heap.size]? = some (.cells #[.slice none 0 0] 48 (0, 0)) ∧ ((w.alloc (.cells #[.slice none 0 0] 48)).alloc (.cells #[.slice none 0 0] 48)).heap[w.heap.size + 1]? = some (.cells #[.slice none 0 0] 48 (0, 0)) ∧ Kept No w ((w.alloc (.cells #[.slice none 0 0] 48)).alloc (.cells #[.slice none 0 0] 48))) := ⟨h0, h1, ((Kept.refl _ _).alloc _).alloc _⟩
  clear h0 h1
  go_enter Try.func28, Try.ntmps28
  go_wp2
  go_loopw [4] (fun i wr => ∃ k : Nat, k ≤ 1 ∧ i = .int .i64 k ∧ ∃ v G, wr.heap[w.heap.size + 1]? = some (.cells #[v] 48 (0, 0)) ∧ wr.heap[w.heap.size]? = some (.cells #[.slice none 0 0] 48 (0, 0)) ∧ TW kRow 54 wr G v (List.replicate k (zrow 1)) ∧ (∀ j, G j → w.heap.size + 1 < j ∧ j < wr.heap.size) ∧ (∀ j, v.ownBlock = some j → w.heap.size + 1 < j) ∧ Kept No w wr) (fun i _ => 1 - (intOf i).toNat)
  case atStart => exact ⟨0, Nat.zero_le _, rfl, .slice none 0 0, No, H0.out.2.1, H0.out.1, TW.nil _ _ _ _, fun j h => h.elim, fun j h => by simp [Value.ownBlock] at h, H0.out.2.2⟩
  case round =>
    obtain ⟨k, hk, rfl, v, G, hB, hA, htw, hG, hob, hke⟩ := hrel
    have hBlt := lt_of_heap hB
    obtain ⟨A0, n0, c0, e0⟩ : ∃ A n c, v = .slice A n c := by obtain ⟨A, c, h, _⟩ := htw.slice; exact ⟨A, _, c, h⟩
    subst e0
    by_cases hlt : k < 1
    · have q0 : wr.drew.cell? ⟨w.heap.size + 1, 0, none⟩ = some (.slice A0 n0 c0) := (heap_one hB).1
      have HQ : Hid (wr.heap[w.heap.size + 1]? = some (.cells #[.slice A0 n0 c0] 48 (0, 0)) ∧ wr.heap[w.heap.size]? = some (.cells #[.slice none 0 0] 48 (0, 0)) ∧ TW kRow 54 wr G (.slice A0 n0 c0) (List.replicate k (zrow 1)) ∧ (∀ j, G j → w.heap.size + 1 < j ∧ j < wr.heap.size) ∧ (∀ j, (Value.slice A0 n0 c0).ownBlock = some j → w.heap.size + 1 < j) ∧ Kept No w wr) := ⟨hB, hA, htw, hG, hob, hke⟩
      clear hB hA htw hG hob hke
      go_wp2
      refine wp_region_plan No (.pur 0 (.pur 2 (.pur 4 (.rd 1 (.grow 3 (.grow 5 (.pur 6 (.grow 7 (.act 8 (.pur 9 (.act 10 .fin))))))))))) [8, 10] mixed (by kernel_rfl) ?_
      repeat ((first | refine pl_pur (by simp only [List.getD_cons_succ, List.getD_cons_zero]; rfl) _ (by rfl) (fun W => by go_simp; with_reducible rfl) ?_ | refine pl_rd (by simp only [List.getD_cons_succ, List.getD_cons_zero]; rfl) _ (by rfl) (fun W hW => by have hc := hW.cell (q0) id; clear hW; go_simp; with_reducible rfl) ?_); simp only [Act.put, List.setIfInBounds_toArray, List.set_cons_zero, List.set_cons_succ])
      refine pl_grow (by simp only [List.getD_cons_succ, List.getD_cons_zero]; rfl) ?_
      go_wp2_with (go_at_call 52; ((with_reducible refine (HZ.out _).mono ?_); rintro e w2 ⟨v18, rfl, ht2, hf2, hk2⟩))
      refine GPost.mk hk2 ?_
      have H2 : Hid (TW (kI .u64) 26 w2 No v18 (List.replicate 1 0) ∧ Fresh wr v18 ∧ Kept No wr w2) := ⟨ht2, hf2, (Kept.refl No wr).drew.trans hk2⟩
      obtain ⟨A2, n2, c2, e2⟩ : ∃ A n c, v18 = .slice A n c := by obtain ⟨A, c, h, _⟩ := ht2.slice; exact ⟨A, _, c, h⟩
      subst e2
      clear ht2 hf2 hk2 q0
      repeat ((first | refine pl_pur (by simp only [List.getD_cons_succ, List.getD_cons_zero]; rfl) _ (by rfl) (fun W => by go_simp; with_reducible rfl) ?_ | refine pl_rd (by simp only [List.getD_cons_succ, List.getD_cons_zero]; rfl) _ (by rfl) (fun W hW => by have hc := kcell hW; clear hW; go_simp; with_reducible rfl) ?_); simp only [Act.put, List.setIfInBounds_toArray, List.set_cons_zero, List.set_cons_succ])
      refine pl_grow (by simp only [List.getD_cons_succ, List.getD_cons_zero]; rfl) ?_
      go_wp2_with (go_at_call 52; ((with_reducible refine (HZ.out _).mono ?_); rintro e w3 ⟨v20, rfl, ht3, hf3, hk3⟩))
      refine GPost.mk hk3 ?_
      have H3 : Hid (TW (kI .u64) 26 w3 No v20 (List.replicate 1 0) ∧ Fresh w2 v20 ∧ Kept No w2 w3) := ⟨ht3, hf3, hk3⟩
      obtain ⟨A3, n3, c3, e3⟩ : ∃ A n c, v20 = .slice A n c := by obtain ⟨A, c, h, _⟩ := ht3.slice; exact ⟨A, _, c, h⟩
      subst e3
      clear ht3 hf3 hk3
      repeat ((first | refine pl_pur (by simp only [List.getD_cons_succ, List.getD_cons_zero]; rfl) _ (by rfl) (fun W => by go_simp; with_reducible rfl) ?_ | refine pl_rd (by simp only [List.getD_cons_succ, List.getD_cons_zero]; rfl) _ (by rfl) (fun W hW => by have hc := kcell hW; clear hW; go_simp; with_reducible rfl) ?_); simp only [Act.put, List.setIfInBounds_toArray, List.set_cons_zero, List.set_cons_succ])
      refine pl_grow (by simp only [List.getD_cons_succ, List.getD_cons_zero]; rfl) ?_
      go_wp2
      refine GPost.mk ((Kept.refl _ _).alloc _) ?_
      repeat ((first | refine pl_pur (by simp only [List.getD_cons_succ, List.getD_cons_zero]; rfl) _ (by rfl) (fun W => by go_simp; with_reducible rfl) ?_ | refine pl_rd (by simp only [List.getD_cons_succ, List.getD_cons_zero]; rfl) _ (by rfl) (fun W hW => by have hc := kcell hW; clear hW; go_simp; with_reducible rfl) ?_); simp only [Act.put, List.setIfInBounds_toArray, List.set_cons_zero, List.set_cons_succ])
      have hk4 : Kept No wr (w3.alloc (.cells #[.int .u64 0, .slice A2 n2 c2, .slice A3 n3 c3, .bool false] 54)) := (H2.out.2.2.trans H3.out.2.2).alloc _
      have HK4 : Hid (Kept No wr (w3.alloc (.cells #[.int .u64 0, .slice A2 n2 c2, .slice A3 n3 c3, .bool false] 54))) := hk4
      have hs3 : wr.heap.size ≤ w3.heap.size := (H2.out.2.2.trans H3.out.2.2).size
      have HG' : Hid (TW kRow 54 (w3.alloc (.cells #[.int .u64 0, .slice A2 n2 c2, .slice A3 n3 c3, .bool false] 54)) (fun j => G j ∨ (wr.heap.size ≤ j ∧ j < w3.heap.size)) (.slice A0 n0 c0) (List.replicate k (zrow 1)) ∧ Reps (kRow.K (w3.alloc (.cells #[.int .u64 0, .slice A2 n2 c2, .slice A3 n3 c3, .bool false] 54)) (fun j => G j ∨ (wr.heap.size ≤ j ∧ j < w3.heap.size))) 4 [zrow 1] [.int .u64 0, .slice A2 n2 c2, .slice A3 n3 c3, .bool false]) := by
        refine ⟨(HQ.out.2.2.1.new hk4).gmono (fun j hj _ => .inl hj) (fun j hj hg => ?_), Reps.single (zrow_K ?_ ?_) rfl⟩
        · rcases hg with hg | hg
          · obtain ⟨_, _, _, h4⟩ := HQ.out.2.2.1
            exact h4 j hj hg
          · have := (HQ.out.2.2.1.lt j hj).1; omega
        · exact (H2.out.1.sl.new (H3.out.2.2.alloc _)).mono fun j hj _ => hj.elim (fun e => .inr ⟨H2.out.2.1 j e, Nat.lt_of_lt_of_le (H2.out.1.lt j e).1 H3.out.2.2.size⟩) (fun h => h.elim)
        · exact (H3.out.1.sl.new ((Kept.refl _ _).alloc _)).mono fun j hj _ => hj.elim (fun e => .inr ⟨Nat.le_trans H2.out.2.2.size (H3.out.2.1 j e), (H3.out.1.lt j e).1⟩) (fun h => h.elim)
      have hl64 : (List.replicate k (zrow 1)).length ≤ 64 := by simp; omega
      clear hk4
      refine pl_act (by simp only [List.getD_cons_succ, List.getD_cons_zero]; rfl) ?_
      refine wpList_append_tw (d := kRow) (G := fun j => G j ∨ (wr.heap.size ≤ j ∧ j < w3.heap.size)) (F := fun j => j = w3.heap.size) rfl (.tmp 16) (.tmp 22) 46 rfl 54 (.agg #[.int .u64 0, .slice none 0 0, .slice none 0 0, .bool false]) 64 Try.underlying46 info_x rfl _ _ 1 _ [zrow 1] [.int .u64 0, .slice A2 n2 c2, .slice A3 n3 c3, .bool false] rfl HG'.out.1 rfl (src_new4 (by simp [Value.oneCell'])) HG'.out.2 rfl (fun j hj => hj.elim (fun h => by have := (HQ.out.2.2.2.1 j h).2; simp; omega) (fun h => by simp; omega)) (by simp only [maxLen]; omega) (by omega) ?_
      intro v5 w5 ht5 hk5 hb5
      rw [← List.replicate_succ'] at ht5
      obtain ⟨g5, o5, c5, e5, _, _, hg5⟩ := ht5.form (by simp)
      subst e5
      have hob5 : ∀ j, (Value.slice (some ⟨g5, o5, none⟩) (List.replicate (k + 1) (zrow 1)).length c5).ownBlock = some j → w.heap.size + 1 < j := fun j hj => by
        rcases hb5 with e | e
        · exact HQ.out.2.2.2.2.1 j (e ▸ hj)
        · rw [e] at hj; simp only [Option.some.injEq, World.size_alloc] at hj; omega
      have hB5 : w5.heap[w.heap.size + 1]? = some (.cells #[.slice A0 n0 c0] 48 (0, 0)) := (hk5.block _ (by simp; omega) (fun e => by have := HQ.out.2.2.2.2.1 _ e; omega)).trans ((HK4.out.block _ hBlt id).trans HQ.out.1)
      have hA5 : w5.heap[w.heap.size]? = some (.cells #[.slice none 0 0] 48 (0, 0)) := (hk5.block _ (by simp; omega) (fun e => by have := HQ.out.2.2.2.2.1 _ e; omega)).trans ((HK4.out.block _ (by omega) id).trans HQ.out.2.1)
      have hk05 : Kept No w w5 := (HQ.out.2.2.2.2.2.trans HK4.out).trans2 hk5 (fun i hi e => by have := HQ.out.2.2.2.2.1 _ e; omega)
      have hs5 := hk5.size
      simp only [World.size_alloc] at hs5
      obtain ⟨m5, hm5⟩ : ∃ m, m = (List.replicate (k + 1) (zrow 1)).length := ⟨_, rfl⟩
      rw [← hm5] at ht5 hob5 ⊢
      have H5 : Hid (TW kRow 54 w5 (fun j => G j ∨ (wr.heap.size ≤ j ∧ j < w3.heap.size)) (.slice (some ⟨g5, o5, none⟩) m5 c5) (List.replicate (k + 1) (zrow 1)) ∧ (∀ j, (Value.slice (some ⟨g5, o5, none⟩) m5 c5).ownBlock = some j → w.heap.size + 1 < j) ∧ w5.heap[w.heap.size + 1]? = some (.cells #[.slice A0 n0 c0] 48 (0, 0)) ∧ w5.heap[w.heap.size]? = some (.cells #[.slice none 0 0] 48 (0, 0)) ∧ Kept No w w5 ∧ w3.heap.size + 1 ≤ w5.heap.size) := ⟨ht5, hob5, hB5, hA5, hk05, hs5⟩
      obtain ⟨x0, x1⟩ := heap_one hB5
      clear ht5 hk5 hb5 hob5 hB5 hA5 hk05 hs5 hm5
      refine APost.mk ?_
      repeat ((first | refine pl_pur (by simp only [List.getD_cons_succ, List.getD_cons_zero]; rfl) _ (by rfl) (fun W => by go_simp; with_reducible rfl) ?_ | refine pl_rd (by simp only [List.getD_cons_succ, List.getD_cons_zero]; rfl) _ (by rfl) (fun W hW => by have hc := kcell hW; clear hW; go_simp; with_reducible rfl) ?_); simp only [Act.put, List.setIfInBounds_toArray, List.set_cons_zero, List.set_cons_succ])
      refine pl_act (by simp only [List.getD_cons_succ, List.getD_cons_zero]; rfl) ?_
      go_wp2
      refine APost.mk (pl_fin ?_)
      go_wp2
      have hkb : Kept (fun j => j = w.heap.size + 1) w5 (w5.setCell ⟨w.heap.size + 1, 0, none⟩ (.slice (some ⟨g5, o5, none⟩) m5 c5)) := (Kept.refl (fun j => j = w.heap.size + 1) w5).setCell (p := ⟨w.heap.size + 1, 0, none⟩) (fun _ => rfl) _
      have HKB : Hid (Kept (fun j => j = w.heap.size + 1) w5 (w5.setCell ⟨w.heap.size + 1, 0, none⟩ (.slice (some ⟨g5, o5, none⟩) m5 c5))) := hkb
      clear hkb
      go_roundw
      case rel =>
        refine ⟨k + 1, by omega, by go_num, _, _, heap_put H5.out.2.2.1, (HKB.out.block _ (lt_of_heap H5.out.2.2.2.1) (fun e => by have e : w.heap.size = w.heap.size + 1 := e; omega)).trans H5.out.2.2.2.1, H5.out.1.kept HKB.out (fun j hj e => by have := H5.out.2.1 j hj; have e : j = w.heap.size + 1 := e; omega) (fun j hj _ e => ?_), fun j hj => ?_, H5.out.2.1, H5.out.2.2.2.2.1.trans2 HKB.out (fun i hi e => by have e : i = w.heap.size + 1 := e; omega)⟩
        · have e : j = w.heap.size + 1 := e
          rcases hj with hj | hj
          · have := (HQ.out.2.2.2.1 j hj).1; omega
          · omega
        · have h6 := H5.out.2.2.2.2.2
          have h7 := HKB.out.size
          rcases hj with hj | hj
          · have := HQ.out.2.2.2.1 j hj; omega
          · omega
      case measure => simp [intOf]; omega
    · have hkn : k = 1 := by omega
      subst hkn
      obtain ⟨x0, x1⟩ := heap_one hB
      obtain ⟨y0, y1⟩ := heap_one hA
      go_wp2
      refine bodyPost_ret (res_cell (by rfl) _ _ w.heap.size 0 (by rfl) [.slice A0 n0 c0] agg48 (one_cell (World.cell?_setCell_same _ _ _ y0))) rfl ?_
      have hkb : Kept (fun j => j = w.heap.size) wr (wr.setCell ⟨w.heap.size, 0, none⟩ (.slice A0 n0 c0)) := (Kept.refl (fun j => j = w.heap.size) wr).setCell (p := ⟨w.heap.size, 0, none⟩) (fun _ => rfl) _
      have hsl : n0 = 1 := by
        obtain ⟨A, c, e, _⟩ := htw.slice
        simp only [Value.slice.injEq] at e
        rw [e.2.1]; simp
      subst hsl
      refine ⟨A0, c0, rfl, ((htw.kept hkb (fun j hj e => by have := hob j hj; have e : j = w.heap.size := e; omega) (fun j hj _ e => by have := (hG j hj).1; have e : j = w.heap.size := e; omega)).sl).mono fun j hj hlt => ⟨hj.elim (fun e => by have := hob j e; omega) (fun e => by have := (hG j e).1; omega), hlt⟩, hke.trans2 hkb (fun i hi e => by have e : i = w.heap.size := e; omega)⟩
end Go.Proofs.Ytfnecdkfhackkaa
