/- The package ident, fifth part: Rows of the reference; Has, of both. -/
import Derived.Test.YtjokkmhndahnkaaI4
import Derived.Test.YtjokkmhndahnkaaDel
set_option linter.unusedVariables false
set_option linter.unusedSimpArgs false
namespace Go.Proofs.Ytjokkmhndahnkaa
open Go.RowKit

set_option maxRecDepth 20000 in
set_option maxHeartbeats 1000000 in
theorem rows_ref (v : Value) (xs : List PRun) (w : World) (F : Nat → Prop) (hv : Sl kRun w F v xs) : Calls Try.prog 10 #[v] w fun e w' => e = .returned (.bool (rowsI xs)) ∧ Kept No w w' := by
  rcases sl_runs hv with ⟨rfl, A', c', rfl⟩ | ⟨h0, h1, b, off, c', rfl, h2, h3, hF, hb, hcx⟩
  · go_enter Try.func10, Try.ntmps10
    go_wp2
    go_loopw [6] (fun i wr => i = .int .i64 0 ∧ w = wr) (fun _ _ => 0)
    case atStart => exact ⟨by first | rfl | trivial, by first | rfl | trivial⟩
    case round =>
      obtain ⟨rfl, rfl⟩ := hrel
      go_wp2
      go_ret
      exact ⟨rfl, Kept.refl _ _⟩
  · obtain ⟨n, hn⟩ : ∃ n, n = xs.length := ⟨_, rfl⟩
    rw [← hn] at h0 h1 h2 ⊢
    obtain ⟨T, hT⟩ : ∃ T, T = rowsI xs := ⟨_, rfl⟩
    have HH : Hid (n = xs.length ∧ T = rowsI xs ∧
      (∀ j x, xs[j]? = some x → okRun x ∧ ∀ i u, [Value.int .u8 x.1, .int .u64 x.2.1, .int .u64 x.2.2][i]? = some u → w.cell? ⟨b, off + j * 3 + i, none⟩ = some u)) := ⟨hn, hT, hcx⟩
    rw [← hT]
    clear hn hcx hv hT
    go_enter Try.func10, Try.ntmps10
    go_wp2
    go_loopw [6] (fun i wr => ∃ k : Nat, k ≤ n ∧ i = .int .i64 k ∧ rowsI (xs.take k) = true ∧ Kept No w wr) (fun i _ => n - (intOf i).toNat)
    case atStart => exact ⟨0, Nat.zero_le _, by first | rfl | trivial, rfl, Kept.refl _ _⟩
    case round =>
      obtain ⟨k, hk, rfl, hro, hke⟩ := hrel
      by_cases hlt : k < n
      · obtain ⟨x, hx⟩ : ∃ x, xs[k]? = some x := ⟨_, List.getElem?_eq_getElem (by rw [← HH.out.1]; exact hlt)⟩
        obtain ⟨hok, hcell⟩ := HH.out.2.2 k x hx
        obtain ⟨x1, x2, x3⟩ := x
        simp only at hcell
        have HC : Hid (∀ i u, [Value.int .u8 x1, .int .u64 x2, .int .u64 x3][i]? = some u → wr.cell? ⟨b, off + k * 3 + i, none⟩ = some u) := fun i u hu => hke.cell (hcell i u hu) id
        have hcall := fun W => run_ref x1 x2 x3 W hok
        have HK : Hid (Kept No w wr) := hke
        obtain ⟨bv, hbv⟩ : ∃ bv, bv = runI (x1, x2, x3) := ⟨_, rfl⟩
        rw [← hbv] at hcall
        have HB : Hid (bv = runI (x1, x2, x3) ∧ xs[k]? = some (x1, x2, x3) ∧ okRun (x1, x2, x3) ∧ rowsI (xs.take k) = true) := ⟨hbv, hx, hok, hro⟩
        clear hbv hx hcell hke hok hro
        cases bv
        · go_wp2_with (first | (with_reducible refine wpList_load_whole rfl (.tmp 11) 40 rfl b (off + k * 3) rfl _ agg40 HC.out ?_) | (go_at_call 21; ((with_reducible refine (hcall _).mono ?_); rintro e w2 ⟨rfl, hk2⟩)))
          go_ret
          exact ⟨ret_bool (by rw [HH.out.2.1, rows_no_run HB.out.2.1 HB.out.1.symm]), HK.out.trans hk2⟩
        · cases k with
          | zero =>
            go_wp2_with (first | (with_reducible refine wpList_load_whole rfl (.tmp 11) 40 rfl b (off + 0 * 3) rfl _ agg40 HC.out ?_) | (go_at_call 21; ((with_reducible refine (hcall _).mono ?_); rintro e w2 ⟨rfl, hk2⟩)))
            refine wp_region_plan No (.pur 0 (.pur 1 (.pur 2 (.pur 3 (.pur 4 (.pur 5 (.pur 6 (.pur 8 (.pur 9 (.pur 10 (.pur 11 (.pur 12 (.rd 7 (.rd 13 (.pur 14 (.pur 15 (.pur 16 (.pur 17 (.pur 18 (.pur 19 (.pur 21 (.pur 22 (.pur 23 (.pur 24 (.pur 25 (.rd 20 (.rd 26 (.pur 27 (.pur 28 (.pur 29 (.pur 30 (.pur 31 (.pur 32 (.pur 34 (.pur 35 (.pur 36 (.pur 37 (.rd 33 (.rd 38 (.grow 39 (.pur 40 (.pur 41 (.pur 42 (.pur 43 (.pur 44 .fin))))))))))))))))))))))))))))))))))))))))))))) [] mixed (by kernel_rfl) ?_
            repeat ((first | refine pl_pur (by simp only [List.getD_cons_succ, List.getD_cons_zero]; rfl) _ (by rfl) (fun W => by go_simp; with_reducible rfl) ?_ | refine pl_rd (by simp only [List.getD_cons_succ, List.getD_cons_zero]; rfl) _ (by rfl) (fun W hW => by have hc := kcell hW; clear hW; go_simp; with_reducible rfl) ?_ | refine pl_skip (by simp only [List.getD_cons_succ, List.getD_cons_zero]; rfl) (by rfl) ?_ | refine pl_skip_rd (by simp only [List.getD_cons_succ, List.getD_cons_zero]; rfl) (by rfl) ?_ | refine pl_skip_grow (by simp only [List.getD_cons_succ, List.getD_cons_zero]; rfl) (by rfl) ?_ | refine pl_skip_act (by simp only [List.getD_cons_succ, List.getD_cons_zero]; rfl) (by rfl) ?_); simp only [Act.put, List.setIfInBounds_toArray, List.set_cons_zero, List.set_cons_succ])
            refine pl_fin ?_
            go_wp2
            go_roundw
            case rel => exact ⟨1, by omega, by go_num, by rw [rowsI_snoc0 HB.out.2.1]; exact HB.out.1.symm, HK.out.trans hk2.drew⟩
            case measure => simp [intOf]; omega
          | succ m =>
            obtain ⟨p, hp⟩ : ∃ p, xs[m]? = some p := ⟨_, List.getElem?_eq_getElem (by rw [← HH.out.1]; omega)⟩
            obtain ⟨pok, pcell⟩ := HH.out.2.2 m p hp
            have prun := rows_prev hp HB.out.2.2.2
            obtain ⟨p1, p2, p3⟩ := p
            simp only at pcell
            have hl2 := fun W => last_ref p1 p2 p3 W pok prun
            have hmn : m < n := by omega
            have hm0 : (0 : Int) ≤ (m : Int) + 1 := by omega
            have hm1 : ((m : Int) + 1 - 1) = m := by omega
            have hm2 : IntKind.i64.wrap (m : Int) = m := by rw [IntKind.wrap_i64]; omega
            have hw3 : IntKind.u64.wrap (p2 + p3) = p2 + p3 := by
              have := runI_iff.1 prun
              simp only at this
              rw [IntKind.wrap_u64]; omega
            have hw2 : IntKind.u64.wrap (p2 + p3 - 1 + 1) = p2 + p3 := by
              have := runI_iff.1 prun
              simp only at this
              rw [IntKind.wrap_u64]; omega
            have HP : Hid (xs[m]? = some (p1, p2, p3) ∧ (∀ W, Kept No w W → ∀ i u, [Value.int .u8 p1, .int .u64 p2, .int .u64 p3][i]? = some u → W.cell? ⟨b, off + m * 3 + i, none⟩ = some u)) := ⟨hp, fun W hW i u hu => hW.cell (pcell i u hu) id⟩
            have HS : Hid (okStep (p1, p2, p3) (x1, x2, x3) = decide (p1 < x1 ∨ p1 = x1 ∧ p2 + p3 < x2)) := rfl
            clear hp pcell pok prun
            rcases Int.lt_trichotomy x1 p1 with hc | hc | hc
            · go_wp2_with (first | (with_reducible refine wpList_load_whole rfl (.tmp 11) 40 rfl b (off + (m + 1) * 3) rfl _ agg40 HC.out ?_) | (go_at_call 21; ((with_reducible refine (hcall _).mono ?_); rintro e w2 ⟨rfl, hk2⟩; have HQ : Hid (Kept No w w2.drew) := HK.out.trans hk2.drew; have p0 : w2.drew.cell? ⟨b, off + m * 3, none⟩ = some (.int .u8 p1) := HP.out.2 _ HQ.out 0 _ rfl; have y0 : w2.drew.cell? ⟨b, off + (m + 1) * 3, none⟩ = some (.int .u8 x1) := (hk2.drew).cell (HC.out 0 _ rfl) id)))
              refine wp_region_plan No (.pur 0 (.pur 1 (.pur 2 (.pur 3 (.pur 4 (.pur 5 (.pur 6 (.pur 8 (.pur 9 (.pur 10 (.pur 11 (.pur 12 (.rd 7 (.rd 13 (.pur 14 (.pur 15 (.pur 16 (.pur 17 (.pur 18 (.pur 19 (.pur 21 (.pur 22 (.pur 23 (.pur 24 (.pur 25 (.rd 20 (.rd 26 (.pur 27 (.pur 28 (.pur 29 (.pur 30 (.pur 31 (.pur 32 (.pur 34 (.pur 35 (.pur 36 (.pur 37 (.rd 33 (.rd 38 (.grow 39 (.pur 40 (.pur 41 (.pur 42 (.pur 43 (.pur 44 .fin))))))))))))))))))))))))))))))))))))))))))))) [] mixed (by kernel_rfl) ?_
              repeat ((first | refine pl_pur (by simp only [List.getD_cons_succ, List.getD_cons_zero]; rfl) _ (by rfl) (fun W => by go_simp; with_reducible rfl) ?_ | refine pl_rd (by simp only [List.getD_cons_succ, List.getD_cons_zero]; rfl) _ (by rfl) (fun W hW => by have hc := hW.cell (p0) id; clear hW; go_simp; with_reducible rfl) ?_ | refine pl_rd (by simp only [List.getD_cons_succ, List.getD_cons_zero]; rfl) _ (by rfl) (fun W hW => by have hc := hW.cell (y0) id; clear hW; go_simp; with_reducible rfl) ?_ | refine pl_skip (by simp only [List.getD_cons_succ, List.getD_cons_zero]; rfl) (by rfl) ?_ | refine pl_skip_rd (by simp only [List.getD_cons_succ, List.getD_cons_zero]; rfl) (by rfl) ?_ | refine pl_skip_grow (by simp only [List.getD_cons_succ, List.getD_cons_zero]; rfl) (by rfl) ?_ | refine pl_skip_act (by simp only [List.getD_cons_succ, List.getD_cons_zero]; rfl) (by rfl) ?_); simp only [Act.put, List.setIfInBounds_toArray, List.set_cons_zero, List.set_cons_succ])
              refine pl_fin ?_
              go_wp2
              go_ret
              exact ⟨ret_bool (by rw [HH.out.2.1, rows_no_step HP.out.1 HB.out.2.1 (by rw [HS.out]; simp; omega)]), HQ.out⟩
            · subst hc
              by_cases hs : x2 ≤ p2 + p3
              · go_wp2_with (first | (with_reducible refine wpList_load_whole rfl (.tmp 11) 40 rfl b (off + (m + 1) * 3) rfl _ agg40 HC.out ?_) | (go_at_call 21; ((with_reducible refine (hcall _).mono ?_); rintro e w2 ⟨rfl, hk2⟩; have HQ : Hid (Kept No w w2.drew) := HK.out.trans hk2.drew; have p0 : w2.drew.cell? ⟨b, off + m * 3, none⟩ = some (.int .u8 x1) := HP.out.2 _ HQ.out 0 _ rfl; have y0 : w2.drew.cell? ⟨b, off + (m + 1) * 3, none⟩ = some (.int .u8 x1) := (hk2.drew).cell (HC.out 0 _ rfl) id; have y1 := (hk2.drew).cell (HC.out 1 _ rfl) id)))
                refine wp_region_plan No (.pur 0 (.pur 1 (.pur 2 (.pur 3 (.pur 4 (.pur 5 (.pur 6 (.pur 8 (.pur 9 (.pur 10 (.pur 11 (.pur 12 (.rd 7 (.rd 13 (.pur 14 (.pur 15 (.pur 16 (.pur 17 (.pur 18 (.pur 19 (.pur 21 (.pur 22 (.pur 23 (.pur 24 (.pur 25 (.rd 20 (.rd 26 (.pur 27 (.pur 28 (.pur 29 (.pur 30 (.pur 31 (.pur 32 (.pur 34 (.pur 35 (.pur 36 (.pur 37 (.rd 33 (.rd 38 (.grow 39 (.pur 40 (.pur 41 (.pur 42 (.pur 43 (.pur 44 .fin))))))))))))))))))))))))))))))))))))))))))))) [] mixed (by kernel_rfl) ?_
                repeat ((first | refine pl_pur (by simp only [List.getD_cons_succ, List.getD_cons_zero]; rfl) _ (by rfl) (fun W => by go_simp; with_reducible rfl) ?_ | refine pl_rd (by simp only [List.getD_cons_succ, List.getD_cons_zero]; rfl) _ (by rfl) (fun W hW => by have hc := hW.cell (p0) id; clear hW; go_simp; with_reducible rfl) ?_ | refine pl_rd (by simp only [List.getD_cons_succ, List.getD_cons_zero]; rfl) _ (by rfl) (fun W hW => by have hc := hW.cell (y0) id; clear hW; go_simp; with_reducible rfl) ?_ | refine pl_rd (by simp only [List.getD_cons_succ, List.getD_cons_zero]; rfl) _ (by rfl) (fun W hW => by have hc := hW.cell (y1) id; clear hW; go_simp; with_reducible rfl) ?_); simp only [Act.put, List.setIfInBounds_toArray, List.set_cons_zero, List.set_cons_succ])
                refine pl_loadw (by simp only [List.getD_cons_succ, List.getD_cons_zero]; rfl) (by rfl) (.tmp 52) 40 (by rfl) b (off + m * 3) (by rfl) _ agg40 (HP.out.2 _ HQ.out) (fun h => h) ?_
                simp only [Act.put, List.setIfInBounds_toArray, List.set_cons_zero, List.set_cons_succ]
                refine pl_grow (by simp only [List.getD_cons_succ, List.getD_cons_zero]; rfl) ?_
                go_wp2_with (go_at_call 34; ((with_reducible refine (hl2 _).mono ?_); rintro e w3 ⟨rfl, hk3⟩))
                refine GPost.mk hk3 ?_
                repeat ((first | refine pl_pur (by simp only [List.getD_cons_succ, List.getD_cons_zero]; rfl) _ (by rfl) (fun W => by go_simp; with_reducible rfl) ?_ | refine pl_rd (by simp only [List.getD_cons_succ, List.getD_cons_zero]; rfl) _ (by rfl) (fun W hW => by have hc := kcell hW; clear hW; go_simp; with_reducible rfl) ?_); simp only [Act.put, List.setIfInBounds_toArray, List.set_cons_zero, List.set_cons_succ])
                refine pl_fin ?_
                go_wp2
                go_ret
                exact ⟨ret_bool (by rw [HH.out.2.1, rows_no_step HP.out.1 HB.out.2.1 (by rw [HS.out]; simp; omega)]), HQ.out.trans hk3⟩
              · go_wp2_with (first | (with_reducible refine wpList_load_whole rfl (.tmp 11) 40 rfl b (off + (m + 1) * 3) rfl _ agg40 HC.out ?_) | (go_at_call 21; ((with_reducible refine (hcall _).mono ?_); rintro e w2 ⟨rfl, hk2⟩; have HQ : Hid (Kept No w w2.drew) := HK.out.trans hk2.drew; have p0 : w2.drew.cell? ⟨b, off + m * 3, none⟩ = some (.int .u8 x1) := HP.out.2 _ HQ.out 0 _ rfl; have y0 : w2.drew.cell? ⟨b, off + (m + 1) * 3, none⟩ = some (.int .u8 x1) := (hk2.drew).cell (HC.out 0 _ rfl) id; have y1 := (hk2.drew).cell (HC.out 1 _ rfl) id)))
                refine wp_region_plan No (.pur 0 (.pur 1 (.pur 2 (.pur 3 (.pur 4 (.pur 5 (.pur 6 (.pur 8 (.pur 9 (.pur 10 (.pur 11 (.pur 12 (.rd 7 (.rd 13 (.pur 14 (.pur 15 (.pur 16 (.pur 17 (.pur 18 (.pur 19 (.pur 21 (.pur 22 (.pur 23 (.pur 24 (.pur 25 (.rd 20 (.rd 26 (.pur 27 (.pur 28 (.pur 29 (.pur 30 (.pur 31 (.pur 32 (.pur 34 (.pur 35 (.pur 36 (.pur 37 (.rd 33 (.rd 38 (.grow 39 (.pur 40 (.pur 41 (.pur 42 (.pur 43 (.pur 44 .fin))))))))))))))))))))))))))))))))))))))))))))) [] mixed (by kernel_rfl) ?_
                repeat ((first | refine pl_pur (by simp only [List.getD_cons_succ, List.getD_cons_zero]; rfl) _ (by rfl) (fun W => by go_simp; with_reducible rfl) ?_ | refine pl_rd (by simp only [List.getD_cons_succ, List.getD_cons_zero]; rfl) _ (by rfl) (fun W hW => by have hc := hW.cell (p0) id; clear hW; go_simp; with_reducible rfl) ?_ | refine pl_rd (by simp only [List.getD_cons_succ, List.getD_cons_zero]; rfl) _ (by rfl) (fun W hW => by have hc := hW.cell (y0) id; clear hW; go_simp; with_reducible rfl) ?_ | refine pl_rd (by simp only [List.getD_cons_succ, List.getD_cons_zero]; rfl) _ (by rfl) (fun W hW => by have hc := hW.cell (y1) id; clear hW; go_simp; with_reducible rfl) ?_); simp only [Act.put, List.setIfInBounds_toArray, List.set_cons_zero, List.set_cons_succ])
                refine pl_loadw (by simp only [List.getD_cons_succ, List.getD_cons_zero]; rfl) (by rfl) (.tmp 52) 40 (by rfl) b (off + m * 3) (by rfl) _ agg40 (HP.out.2 _ HQ.out) (fun h => h) ?_
                simp only [Act.put, List.setIfInBounds_toArray, List.set_cons_zero, List.set_cons_succ]
                refine pl_grow (by simp only [List.getD_cons_succ, List.getD_cons_zero]; rfl) ?_
                go_wp2_with (go_at_call 34; ((with_reducible refine (hl2 _).mono ?_); rintro e w3 ⟨rfl, hk3⟩))
                refine GPost.mk hk3 ?_
                repeat ((first | refine pl_pur (by simp only [List.getD_cons_succ, List.getD_cons_zero]; rfl) _ (by rfl) (fun W => by go_simp; with_reducible rfl) ?_ | refine pl_rd (by simp only [List.getD_cons_succ, List.getD_cons_zero]; rfl) _ (by rfl) (fun W hW => by have hc := kcell hW; clear hW; go_simp; with_reducible rfl) ?_); simp only [Act.put, List.setIfInBounds_toArray, List.set_cons_zero, List.set_cons_succ])
                refine pl_fin ?_
                go_wp2
                go_roundw
                case rel => exact ⟨m + 1 + 1, by omega, by go_num, rows_next HP.out.1 HB.out.2.1 HB.out.2.2.2 (by rw [HS.out]; simp; omega) HB.out.1.symm, HQ.out.trans hk3⟩
                case measure => simp [intOf]; omega
            · have hne : (x1 == p1) = false := by rw [beq_eq_false_iff_ne]; omega
              have hnl : ¬ x1 < p1 := by omega
              have hnd : decide (x1 < p1) = false := decide_eq_false hnl
              have hnf : (x1 < p1) = False := eq_false hnl
              go_wp2_with (first | (with_reducible refine wpList_load_whole rfl (.tmp 11) 40 rfl b (off + (m + 1) * 3) rfl _ agg40 HC.out ?_) | (go_at_call 21; ((with_reducible refine (hcall _).mono ?_); rintro e w2 ⟨rfl, hk2⟩; have HQ : Hid (Kept No w w2.drew) := HK.out.trans hk2.drew; have p0 : w2.drew.cell? ⟨b, off + m * 3, none⟩ = some (.int .u8 p1) := HP.out.2 _ HQ.out 0 _ rfl; have y0 : w2.drew.cell? ⟨b, off + (m + 1) * 3, none⟩ = some (.int .u8 x1) := (hk2.drew).cell (HC.out 0 _ rfl) id)))
              refine wp_region_plan No (.pur 0 (.pur 1 (.pur 2 (.pur 3 (.pur 4 (.pur 5 (.pur 6 (.pur 8 (.pur 9 (.pur 10 (.pur 11 (.pur 12 (.rd 7 (.rd 13 (.pur 14 (.pur 15 (.pur 16 (.pur 17 (.pur 18 (.pur 19 (.pur 21 (.pur 22 (.pur 23 (.pur 24 (.pur 25 (.rd 20 (.rd 26 (.pur 27 (.pur 28 (.pur 29 (.pur 30 (.pur 31 (.pur 32 (.pur 34 (.pur 35 (.pur 36 (.pur 37 (.rd 33 (.rd 38 (.grow 39 (.pur 40 (.pur 41 (.pur 42 (.pur 43 (.pur 44 .fin))))))))))))))))))))))))))))))))))))))))))))) [] mixed (by kernel_rfl) ?_
              repeat ((first | refine pl_pur (by simp only [List.getD_cons_succ, List.getD_cons_zero]; rfl) _ (by rfl) (fun W => by go_simp; with_reducible rfl) ?_ | refine pl_rd (by simp only [List.getD_cons_succ, List.getD_cons_zero]; rfl) _ (by rfl) (fun W hW => by have hc := hW.cell (p0) id; clear hW; go_simp; with_reducible rfl) ?_ | refine pl_rd (by simp only [List.getD_cons_succ, List.getD_cons_zero]; rfl) _ (by rfl) (fun W hW => by have hc := hW.cell (y0) id; clear hW; go_simp; with_reducible rfl) ?_ | refine pl_skip (by simp only [List.getD_cons_succ, List.getD_cons_zero]; rfl) (by rfl) ?_ | refine pl_skip_rd (by simp only [List.getD_cons_succ, List.getD_cons_zero]; rfl) (by rfl) ?_ | refine pl_skip_grow (by simp only [List.getD_cons_succ, List.getD_cons_zero]; rfl) (by rfl) ?_ | refine pl_skip_act (by simp only [List.getD_cons_succ, List.getD_cons_zero]; rfl) (by rfl) ?_); simp only [Act.put, List.setIfInBounds_toArray, List.set_cons_zero, List.set_cons_succ])
              refine pl_fin ?_
              go_wp2
              go_roundw
              case rel => exact ⟨m + 1 + 1, by omega, by go_num, rows_next HP.out.1 HB.out.2.1 HB.out.2.2.2 (by rw [HS.out]; simp; omega) HB.out.1.symm, HQ.out⟩
              case measure => simp [intOf]; omega
      · go_wp2
        go_ret
        have : k = n := by omega
        subst this
        exact ⟨ret_bool (by rw [HH.out.2.1, ← hro, HH.out.1]; simp), hke⟩
end Go.Proofs.Ytjokkmhndahnkaa
