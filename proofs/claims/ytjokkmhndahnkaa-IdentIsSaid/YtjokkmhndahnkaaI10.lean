/- The package ident, tenth part: slices.Compact over ids. -/
import Derived.Test.YtjokkmhndahnkaaI9
set_option linter.unusedVariables false
set_option linter.unusedSimpArgs false
namespace Go.Proofs.Ytjokkmhndahnkaa
open Go.RowKit

theorem tw_ids {w : World} {G : Nat → Prop} {g off n c : Nat} {ys : List PID} (h : TW kID 33 w G (.slice (some ⟨g, off, none⟩) n c) ys) {j : Nat} {x : PID} (hx : ys[j]? = some x) :
    okID x ∧ ∀ i u, [Value.int .u8 x.1, .int .u64 x.2][i]? = some u → w.cell? ⟨g, off + j * 2 + i, none⟩ = some u := by
  obtain ⟨b, o, cs, e, ⟨rfl, hr⟩, hc⟩ := h.get hx
  simp only [Option.some.injEq, Addr.mk.injEq] at e
  obtain ⟨rfl, rfl, _⟩ := e
  exact ⟨hr, hc⟩
theorem one_id (y : PID) : ∀ u ∈ [Value.int .u8 y.1, .int .u64 y.2], u.oneCell' = true := by
  intro u hu
  simp at hu
  rcases hu with rfl | rfl <;> rfl
theorem dec_symm {x p : PID} (h : true = decide (x = p)) : p = x := by
  have e : x = p := by simpa using h.symm
  exact e.symm
theorem compactL_short {xs : List PID} (h : xs.length < 2) : compactL xs = xs := by
  match xs, h with
  | [], _ => rfl
  | [x], _ => rfl
theorem take_set_next {ys : List PID} {k : Nat} (x : PID) (h : k < ys.length) : (ys.set k x).take (k + 1) = ys.take k ++ [x] := by
  rw [take_succ_snoc (x := x) (by simp [h])]
  congr 1
  rw [List.take_set_of_le (Nat.le_refl _)]
theorem drop_get {ys xs : List PID} {k j : Nat} (h : ys.drop k = xs.drop k) (hj : k ≤ j) : ys[j]? = xs[j]? := by
  have e : j = k + (j - k) := by omega
  rw [e, ← List.getElem?_drop, ← List.getElem?_drop, h]
theorem drop_set_next {ys xs : List PID} {k j : Nat} (x : PID) (h : ys.drop k = xs.drop k) (hj : j ≤ k) : (ys.set j x).drop (k + 1) = xs.drop (k + 1) := by
  rw [List.drop_set_of_lt (by omega)]
  have := congrArg (List.drop 1) h
  simpa [List.drop_drop, Nat.add_comm] using this

set_option maxRecDepth 20000 in
set_option maxHeartbeats 2000000 in
theorem compact_op (v : Value) (xs : List PID) (w : World) (h : TW kID 33 w No v xs) :
    Calls Try.prog 32 #[v] w fun e w' => ∃ v', e = .returned v' ∧ TW kID 33 w' No v' (compactL xs) ∧ v'.ownBlock = v.ownBlock ∧ Kept (fun k => v.ownBlock = some k) w w' := by
  by_cases hsh : xs.length < 2
  · obtain ⟨A, c, rfl, hc1, hc2⟩ := h.slice
    rw [compactL_short hsh]
    have H : Hid (TW kID 33 w No (.slice A xs.length c) xs) := h
    obtain ⟨n, hn⟩ : ∃ n, n = xs.length := ⟨_, rfl⟩
    rw [← hn] at hsh H ⊢
    clear hn h hc1
    go_enter Try.func32, Try.ntmps32
    go_wp2
    go_ret
    exact ⟨_, rfl, H.out, rfl, Kept.refl _ _⟩
  · obtain ⟨n, hn⟩ : ∃ n, n = xs.length := ⟨_, rfl⟩
    have hsh2 : ∃ g off c, v = .slice (some ⟨g, off, none⟩) n c ∧ n ≤ c ∧ c ≤ 9223372036854775807 := by
      obtain ⟨cs, h1, _⟩ := h
      rcases h1.2 with ⟨_, h0⟩ | ⟨g, off, cap, cur, hv, _, h3, h4, _⟩
      · omega
      · exact ⟨g, off, cap, by rw [hv, hn], by omega, by simpa only [maxLen] using h4⟩
    obtain ⟨g, off, c, rfl, hnc, hcm⟩ := hsh2
    have h2n : ¬ n < 2 := by omega
    have hown : (Value.slice (some ⟨g, off, none⟩) n c).ownBlock = some g := rfl
    simp only [hown, Option.some.injEq]
    have HH : Hid (n = xs.length ∧ TW kID 33 w No (.slice (some ⟨g, off, none⟩) n c) xs) := ⟨hn, h⟩
    have hone : compactL (xs.take 1) = xs.take 1 := compactL_short (by rw [List.length_take]; omega)
    have HO : Hid (compactL (xs.take 1) = xs.take 1) := hone
    clear hsh hn h hown hone
    go_enter Try.func32, Try.ntmps32
    go_wp2
    go_loopw [3] (fun i wr => ∃ m : Nat, m + 1 ≤ n ∧ i = .int .i64 ((m + 1 : Nat) : Int) ∧ compactL (xs.take (m + 1)) = xs.take (m + 1) ∧ Kept No w wr) (fun i _ => n - (intOf i).toNat)
    case atStart => exact ⟨0, by omega, by first | rfl | trivial, HO.out, Kept.refl _ _⟩
    case round =>
      obtain ⟨m, hm, rfl, hcp, hke⟩ := hrel
      by_cases hlt : m + 1 < n
      · obtain ⟨x, hx⟩ : ∃ x, xs[m + 1]? = some x := ⟨_, List.getElem?_eq_getElem (by rw [← HH.out.1]; exact hlt)⟩
        obtain ⟨p, hp⟩ : ∃ x, xs[m]? = some x := ⟨_, List.getElem?_eq_getElem (by rw [← HH.out.1]; omega)⟩
        have htr := HH.out.2.new hke
        have c1 := (tw_ids (htr.new ((Kept.refl No wr).drew)) hx).2
        have c2 := (tw_ids (htr.new ((Kept.refl No wr).drew)) hp).2
        have HC : Hid ((∀ i u, [Value.int .u8 x.1, .int .u64 x.2][i]? = some u → wr.drew.cell? ⟨g, off + (m + 1) * 2 + i, none⟩ = some u) ∧ (∀ i u, [Value.int .u8 p.1, .int .u64 p.2][i]? = some u → wr.drew.cell? ⟨g, off + m * 2 + i, none⟩ = some u)) := ⟨c1, c2⟩
        obtain ⟨bv, hbv⟩ : ∃ bv, bv = decide (x = p) := ⟨_, rfl⟩
        have HB : Hid (bv = decide (x = p) ∧ xs[m + 1]? = some x ∧ xs[m]? = some p ∧ compactL (xs.take (m + 1)) = xs.take (m + 1) ∧ Kept No w wr ∧ TW kID 33 wr No (.slice (some ⟨g, off, none⟩) n c) xs) := ⟨hbv, hx, hp, hcp, hke, htr⟩
        have hmn : m < n := by omega
        have hm0 : (0 : Int) ≤ (m : Int) + 1 := by omega
        have hm1 : ((m : Int) + 1 - 1) = m := by omega
        have hm2 : IntKind.i64.wrap (m : Int) = m := by rw [IntKind.wrap_i64]; omega
        clear hbv hx hp hcp hke c1 c2 htr
        cases bv
        · go_wp2
          refine wp_region_plan No (.pur 0 (.pur 1 (.pur 2 (.pur 4 (.pur 5 (.pur 6 (.pur 7 (.rd 3 (.rd 8 (.pur 9 .fin)))))))))) [] mixed (by kernel_rfl) ?_
          repeat ((first | refine pl_pur (by simp only [List.getD_cons_succ, List.getD_cons_zero]; rfl) _ (by rfl) (fun W => by go_simp; with_reducible rfl) ?_ | refine pl_rd (by simp only [List.getD_cons_succ, List.getD_cons_zero]; rfl) _ (by rfl) (fun W hW => by have hc := kcell hW; clear hW; go_simp; with_reducible rfl) ?_); simp only [Act.put, List.setIfInBounds_toArray, List.set_cons_zero, List.set_cons_succ])
          refine pl_loadw (by simp only [List.getD_cons_succ, List.getD_cons_zero]; rfl) (by rfl) (.tmp 18) 33 (by rfl) g (off + (m + 1) * 2) (by rfl) _ agg33 HC.out.1 (fun h => h) ?_
          simp only [Act.put, List.setIfInBounds_toArray, List.set_cons_zero, List.set_cons_succ]
          refine pl_loadw (by simp only [List.getD_cons_succ, List.getD_cons_zero]; rfl) (by rfl) (.tmp 23) 33 (by rfl) g (off + m * 2) (by rfl) _ agg33 HC.out.2 (fun h => h) ?_
          simp only [Act.put, List.setIfInBounds_toArray, List.set_cons_zero, List.set_cons_succ]
          refine pl_pur (by simp only [List.getD_cons_succ, List.getD_cons_zero]; rfl) _ (by rfl) (exec_eql33 HB.out.1 (by rfl) (by rfl) (by rfl)) ?_
          simp only [Act.put, List.setIfInBounds_toArray, List.set_cons_zero, List.set_cons_succ]
          refine pl_fin ?_
          go_wp2
          go_roundw
          case rel =>
            refine ⟨m + 1, by omega, by go_num, ?_, HB.out.2.2.2.2.1.drew⟩
            rw [compactL_take HB.out.2.2.1 HB.out.2.1, HB.out.2.2.2.1, take_succ_snoc HB.out.2.1]
            have := HB.out.1
            rw [if_neg (by intro e; rw [e] at this; simp at this)]
          case measure => simp [intOf]; omega
        · have hmc : m + 1 < c := by omega
          have hmn1 : m + 1 ≤ n := by omega
          have hmc1 : m + 1 ≤ c := by omega
          have hmcne : ¬ c = m + 1 := by omega
          have hmi : (m : Int) + 1 ≤ n := by omega
          have hmi2 : (m : Int) + 1 ≤ c := by omega
          go_wp2
          refine wp_region_plan No (.pur 0 (.pur 1 (.pur 2 (.pur 4 (.pur 5 (.pur 6 (.pur 7 (.rd 3 (.rd 8 (.pur 9 .fin)))))))))) [] mixed (by kernel_rfl) ?_
          repeat ((first | refine pl_pur (by simp only [List.getD_cons_succ, List.getD_cons_zero]; rfl) _ (by rfl) (fun W => by go_simp; with_reducible rfl) ?_ | refine pl_rd (by simp only [List.getD_cons_succ, List.getD_cons_zero]; rfl) _ (by rfl) (fun W hW => by have hc := kcell hW; clear hW; go_simp; with_reducible rfl) ?_); simp only [Act.put, List.setIfInBounds_toArray, List.set_cons_zero, List.set_cons_succ])
          refine pl_loadw (by simp only [List.getD_cons_succ, List.getD_cons_zero]; rfl) (by rfl) (.tmp 18) 33 (by rfl) g (off + (m + 1) * 2) (by rfl) _ agg33 HC.out.1 (fun h => h) ?_
          simp only [Act.put, List.setIfInBounds_toArray, List.set_cons_zero, List.set_cons_succ]
          refine pl_loadw (by simp only [List.getD_cons_succ, List.getD_cons_zero]; rfl) (by rfl) (.tmp 23) 33 (by rfl) g (off + m * 2) (by rfl) _ agg33 HC.out.2 (fun h => h) ?_
          simp only [Act.put, List.setIfInBounds_toArray, List.set_cons_zero, List.set_cons_succ]
          refine pl_pur (by simp only [List.getD_cons_succ, List.getD_cons_zero]; rfl) _ (by rfl) (exec_eql33 HB.out.1 (by rfl) (by rfl) (by rfl)) ?_
          simp only [Act.put, List.setIfInBounds_toArray, List.set_cons_zero, List.set_cons_succ]
          refine pl_fin ?_
          have HS : Hid (xs.take (m + 1) = compactL (xs.take (m + 1 + 1)) ∧ Kept No w wr.drew ∧ TW kID 33 wr.drew No (.slice (some ⟨g, off, none⟩) n c) xs) := ⟨by
            rw [compactL_take HB.out.2.2.1 HB.out.2.1, HB.out.2.2.2.1]
            rw [if_pos (dec_symm HB.out.1)]; simp, HB.out.2.2.2.2.1.drew, HB.out.2.2.2.2.2.new ((Kept.refl _ _).drew)⟩
          go_wp2
          go_loopw [3, 5] (fun a b wr => ∃ k q : Nat, ∃ ys, m + 1 ≤ k ∧ k ≤ m + q + 1 ∧ m + q + 2 ≤ n ∧ a = .int .i64 k ∧ b = .int .i64 ((q + 1 : Nat) : Int) ∧ ys.length = n ∧ ys.take k = compactL (xs.take (m + q + 2)) ∧ ys.drop (m + q + 1) = xs.drop (m + q + 1) ∧
            TW kID 33 wr No (.slice (some ⟨g, off, none⟩) n c) ys ∧ Kept (fun k => g = k) w wr) (fun _ b _ => n - (intOf b).toNat)
          case atStart => exact ⟨m + 1, 0, xs, Nat.le_refl _, by omega, by omega, by first | rfl | trivial, by first | rfl | trivial, HH.out.1.symm, HS.out.1, rfl, HS.out.2.2, HS.out.2.1.no⟩
          case round =>
            obtain ⟨k, q, ys, hk1, hk2, hq, rfl, rfl, hyl, hyt, hyd, htw, hkg⟩ := hrel
            have hkn : k < n := by omega
            have hkc : k < c := by omega
            by_cases hlt2 : q + 1 < n - (m + 1)
            · obtain ⟨y, hy⟩ : ∃ x, xs[m + q + 2]? = some x := ⟨_, List.getElem?_eq_getElem (by rw [← HH.out.1]; omega)⟩
              obtain ⟨z, hz⟩ : ∃ x, xs[m + q + 1]? = some x := ⟨_, List.getElem?_eq_getElem (by rw [← HH.out.1]; omega)⟩
              have hyy : ys[m + q + 2]? = some y := by rw [drop_get hyd (by omega)]; exact hy
              have hyz : ys[m + q + 1]? = some z := by rw [drop_get hyd (by omega)]; exact hz
              have c1 := tw_ids (htw.new ((Kept.refl No wr).drew)) hyy
              have c2 := (tw_ids (htw.new ((Kept.refl No wr).drew)) hyz).2
              have HC2 : Hid ((∀ i u, [Value.int .u8 y.1, .int .u64 y.2][i]? = some u → wr.drew.cell? ⟨g, off + (m + 1) * 2 + (q + 1) * 2 + i, none⟩ = some u) ∧ (∀ i u, [Value.int .u8 z.1, .int .u64 z.2][i]? = some u → wr.drew.cell? ⟨g, off + (m + 1) * 2 + q * 2 + i, none⟩ = some u)) :=
                ⟨fun i u hu => by rw [show off + (m + 1) * 2 + (q + 1) * 2 + i = off + (m + q + 2) * 2 + i by omega]; exact c1.2 i u hu, fun i u hu => by rw [show off + (m + 1) * 2 + q * 2 + i = off + (m + q + 1) * 2 + i by omega]; exact c2 i u hu⟩
              obtain ⟨cv, hcv⟩ : ∃ cv, cv = decide (y = z) := ⟨_, rfl⟩
              have HB2 : Hid (cv = decide (y = z) ∧ xs[m + q + 2]? = some y ∧ xs[m + q + 1]? = some z ∧ ys.length = n ∧ ys.take k = compactL (xs.take (m + q + 2)) ∧ ys.drop (m + q + 1) = xs.drop (m + q + 1) ∧ TW kID 33 wr.drew No (.slice (some ⟨g, off, none⟩) n c) ys ∧ Kept (fun k => g = k) w wr.drew ∧ okID y) := ⟨hcv, hy, hz, hyl, hyt, hyd, htw.new ((Kept.refl _ _).drew), hkg.drew, c1.1⟩
              have hqn : q < n - (m + 1) := by omega
              have hq0 : (0 : Int) ≤ (q : Int) + 1 := by omega
              have hq1 : ((q : Int) + 1 - 1) = q := by omega
              have hq2 : IntKind.i64.wrap (q : Int) = q := by rw [IntKind.wrap_i64]; omega
              clear hcv hy hz hyl hyt hyd htw hkg c1 c2 hyy hyz
              cases cv
              · go_wp2
                refine wp_region_plan No (.pur 0 (.pur 1 (.pur 2 (.pur 4 (.pur 5 (.pur 6 (.pur 7 (.rd 3 (.rd 8 (.pur 9 .fin)))))))))) [] mixed (by kernel_rfl) ?_
                repeat ((first | refine pl_pur (by simp only [List.getD_cons_succ, List.getD_cons_zero]; rfl) _ (by rfl) (fun W => by go_simp; with_reducible rfl) ?_ | refine pl_rd (by simp only [List.getD_cons_succ, List.getD_cons_zero]; rfl) _ (by rfl) (fun W hW => by have hc := kcell hW; clear hW; go_simp; with_reducible rfl) ?_); simp only [Act.put, List.setIfInBounds_toArray, List.set_cons_zero, List.set_cons_succ])
                refine pl_loadw (by simp only [List.getD_cons_succ, List.getD_cons_zero]; rfl) (by rfl) (.tmp 37) 33 (by rfl) g (off + (m + 1) * 2 + (q + 1) * 2) (by rfl) _ agg33 HC2.out.1 (fun h => h) ?_
                simp only [Act.put, List.setIfInBounds_toArray, List.set_cons_zero, List.set_cons_succ]
                refine pl_loadw (by simp only [List.getD_cons_succ, List.getD_cons_zero]; rfl) (by rfl) (.tmp 42) 33 (by rfl) g (off + (m + 1) * 2 + q * 2) (by rfl) _ agg33 HC2.out.2 (fun h => h) ?_
                simp only [Act.put, List.setIfInBounds_toArray, List.set_cons_zero, List.set_cons_succ]
                refine pl_pur (by simp only [List.getD_cons_succ, List.getD_cons_zero]; rfl) _ (by rfl) (exec_neq33 HB2.out.1 (by rfl) (by rfl) (by rfl)) ?_
                simp only [Act.put, List.setIfInBounds_toArray, List.set_cons_zero, List.set_cons_succ]
                refine pl_fin ?_
                have hset := HB2.out.2.2.2.2.2.2.1.set HB2.out.2.2.2.1 (i := k) hkn (x := y) (cs := [.int .u8 y.1, .int .u64 y.2]) ⟨rfl, HB2.out.2.2.2.2.2.2.2.2⟩
                obtain ⟨cur, hg1, hg2, hg3⟩ := hset
                have HG : Hid (wr.drew.heap[g]? = some (.cells cur 33 (0, 0)) ∧ off + k * 2 + [Value.int .u8 y.1, .int .u64 y.2].length ≤ cur.size ∧ TW kID 33 (wr.drew.setRow g (cur.toList.take (off + k * 2) ++ [Value.int .u8 y.1, .int .u64 y.2] ++ cur.toList.drop (off + k * 2 + [Value.int .u8 y.1, .int .u64 y.2].length)).toArray) No (.slice (some ⟨g, off, none⟩) n c) (ys.set k y)) := ⟨hg1, hg2, hg3⟩
                clear hg1 hg2 hg3
                go_wp2_with (first | (with_reducible refine wpList_load_whole rfl (.tmp 49) 33 rfl g (off + (m + 1) * 2 + (q + 1) * 2) rfl _ agg33 HC2.out.1 ?_) | (with_reducible refine wpList_store_whole rfl (.tmp 51) (.tmp 50) 33 rfl g (off + k * 2) 33 rfl [Value.int .u8 y.1, .int .u64 y.2] rfl agg33 cur HG.out.1 HG.out.2.1 (one_id y) ?_; intro w4 HW4))
                have hT := HG.out.2.2
                rw [← HW4.out] at hT
                have hkF := HB2.out.2.2.2.2.2.2.2.1.setRow (g := g) (fun _ => rfl) (cur.toList.take (off + k * 2) ++ [Value.int .u8 y.1, .int .u64 y.2] ++ cur.toList.drop (off + k * 2 + [Value.int .u8 y.1, .int .u64 y.2].length)).toArray
                rw [← HW4.out] at hkF
                have HF : Hid ((ys.set k y).length = n ∧ (ys.set k y).take (k + 1) = compactL (xs.take (m + (q + 1) + 2)) ∧ (ys.set k y).drop (m + (q + 1) + 1) = xs.drop (m + (q + 1) + 1) ∧ TW kID 33 w4 No (.slice (some ⟨g, off, none⟩) n c) (ys.set k y) ∧ Kept (fun k => g = k) w w4) :=
                  ⟨by rw [List.length_set]; exact HB2.out.2.2.2.1, by
                    rw [take_set_next y (by rw [HB2.out.2.2.2.1]; exact hkn), HB2.out.2.2.2.2.1, show m + (q + 1) + 2 = m + q + 1 + 1 + 1 by omega, compactL_take HB2.out.2.2.1 HB2.out.2.1]
                    have h1 := HB2.out.1
                    rw [if_neg (by intro e; rw [e] at h1; simp at h1)], drop_set_next y HB2.out.2.2.2.2.2.1 hk2, hT, hkF⟩
                clear hT hkF
                go_roundw
                case rel =>
                  have hdd : decide ((m : Int) + 1 < n) = true := decide_eq_true (by omega)
                  rw [hdd]
                  (repeat apply Exists.intro)
                  exact ⟨⟨k + 1, q + 1, ys.set k y, by omega, by omega, by omega, by go_num, by go_num, HF.out.1, HF.out.2.1, HF.out.2.2.1, HF.out.2.2.2.1, HF.out.2.2.2.2⟩, rfl⟩
                case measure => simp [intOf]; omega
              · go_wp2
                refine wp_region_plan No (.pur 0 (.pur 1 (.pur 2 (.pur 4 (.pur 5 (.pur 6 (.pur 7 (.rd 3 (.rd 8 (.pur 9 .fin)))))))))) [] mixed (by kernel_rfl) ?_
                repeat ((first | refine pl_pur (by simp only [List.getD_cons_succ, List.getD_cons_zero]; rfl) _ (by rfl) (fun W => by go_simp; with_reducible rfl) ?_ | refine pl_rd (by simp only [List.getD_cons_succ, List.getD_cons_zero]; rfl) _ (by rfl) (fun W hW => by have hc := kcell hW; clear hW; go_simp; with_reducible rfl) ?_); simp only [Act.put, List.setIfInBounds_toArray, List.set_cons_zero, List.set_cons_succ])
                refine pl_loadw (by simp only [List.getD_cons_succ, List.getD_cons_zero]; rfl) (by rfl) (.tmp 37) 33 (by rfl) g (off + (m + 1) * 2 + (q + 1) * 2) (by rfl) _ agg33 HC2.out.1 (fun h => h) ?_
                simp only [Act.put, List.setIfInBounds_toArray, List.set_cons_zero, List.set_cons_succ]
                refine pl_loadw (by simp only [List.getD_cons_succ, List.getD_cons_zero]; rfl) (by rfl) (.tmp 42) 33 (by rfl) g (off + (m + 1) * 2 + q * 2) (by rfl) _ agg33 HC2.out.2 (fun h => h) ?_
                simp only [Act.put, List.setIfInBounds_toArray, List.set_cons_zero, List.set_cons_succ]
                refine pl_pur (by simp only [List.getD_cons_succ, List.getD_cons_zero]; rfl) _ (by rfl) (exec_neq33 HB2.out.1 (by rfl) (by rfl) (by rfl)) ?_
                simp only [Act.put, List.setIfInBounds_toArray, List.set_cons_zero, List.set_cons_succ]
                refine pl_fin ?_
                go_wp2
                have HF : Hid (ys.take k = compactL (xs.take (m + (q + 1) + 2)) ∧ ys.drop (m + (q + 1) + 1) = xs.drop (m + (q + 1) + 1)) :=
                  ⟨by
                    rw [HB2.out.2.2.2.2.1, show m + (q + 1) + 2 = m + q + 1 + 1 + 1 by omega, compactL_take HB2.out.2.2.1 HB2.out.2.1]
                    rw [if_pos (dec_symm HB2.out.1)]; simp, by
                    have := congrArg (List.drop 1) HB2.out.2.2.2.2.2.1
                    simpa [List.drop_drop, Nat.add_comm, Nat.add_left_comm, Nat.add_assoc] using this⟩
                go_roundw
                case rel => exact ⟨k, q + 1, ys, by omega, by omega, by omega, by go_num, by go_num, HB2.out.2.2.2.1, HF.out.1, HF.out.2, HB2.out.2.2.2.2.2.2.1, HB2.out.2.2.2.2.2.2.2.1⟩
                case measure => simp [intOf]; omega
            · have hqe : m + q + 2 = n := by omega
              have hytn : ys.take k = compactL xs := by rw [hyt, hqe, HH.out.1, List.take_length]
              have hci : ¬ c = k := by omega
              obtain ⟨yc, hw, hr, hgg⟩ := htw
              rw [hyl] at hw
              have HW : Hid (Win wr 33 2 (.slice (some ⟨g, off, none⟩) n c) n yc ∧ Reps (kID.K wr No) kID.sz ys yc ∧ ys.take k = compactL xs ∧ ys.length = n ∧ Kept (fun k => g = k) w wr) := ⟨hw, hr, hytn, hyl, hkg⟩
              have hle : k ≤ n := by omega
              have hlec : k ≤ c := by omega
              clear hw hr hgg hytn hyl hyt hyd hkg
              go_wp2_with (with_reducible refine wpList_clear_win rfl (.tmp 56) 22 33 rfl (.agg #[.int .u8 0, .int .u64 0]) 2 16 Try.underlying22 dinfo_ids rfl (by decide) g off n c k yc _ (n - k) _ rfl rfl (fun _ => rfl) HW.out.1 hle ?_)
              intro w' xs' hk' hw' ht'
              have HE : Hid (Kept (fun k => k = g) wr w' ∧ Win w' 33 2 (.slice (some ⟨g, off, none⟩) n c) n xs' ∧ xs'.take (k * 2) = yc.take (k * 2)) := ⟨hk', hw', ht'⟩
              clear hk' hw' ht'
              go_wp2
              go_ret
              have hT := del_end (d := kID) (i := k) HW.out.1 HW.out.2.1 (fun h => h) HW.out.2.2.2.1 HE.out.1 HE.out.2.1 HE.out.2.2 hle
              rw [HW.out.2.2.1] at hT
              exact ⟨_, rfl, hT, rfl, HW.out.2.2.2.2.trans (HE.out.1.mono fun _ _ e => e.symm)⟩
      · go_wp2
        go_ret
        have : m + 1 = n := by omega
        refine ⟨_, rfl, ?_, rfl, hke.no⟩
        rw [this, HH.out.1, List.take_length] at hcp
        rw [hcp]
        exact HH.out.2.new hke
end Go.Proofs.Ytjokkmhndahnkaa
