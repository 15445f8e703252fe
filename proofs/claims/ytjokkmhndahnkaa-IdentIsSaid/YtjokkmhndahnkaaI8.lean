/- The package ident, eighth part: List of the reference. -/
import Derived.Test.YtjokkmhndahnkaaI7
set_option linter.unusedVariables false
set_option linter.unusedSimpArgs false
namespace Go.Proofs.Ytjokkmhndahnkaa
open Go.RowKit

set_option maxRecDepth 20000 in
set_option maxHeartbeats 1000000 in
theorem list_ref (most : Int) (v : Value) (xs : List PRun) (w : World) (F : Nat → Prop) (hv : Sl kRun w F v xs) (hm : -9223372036854775808 ≤ most ∧ most ≤ 300) :
    Calls Try.prog 12 #[.int .i64 most, v] w fun e w' => ∃ v', e = .returned v' ∧ TW kID 33 w' No v' (listP most xs) ∧ Fresh w v' ∧ Kept No w w' := by
  have k0 : Kept No w (w.alloc (.cells #[] 33)) := (Kept.refl _ _).alloc _
  have hcount := count_ref v xs (w.alloc (.cells #[] 33)) F (hv.new k0)
  have ht0 : TW kID 33 (w.alloc (.cells #[] 33)) No (.slice (some ⟨w.heap.size, 0, none⟩) 0 0) [] := TW.empty (heap_alloc_new _ _) id
  have hf0 : Fresh w (.slice (some ⟨w.heap.size, 0, none⟩) 0 0) := fun k hk => by simp [Value.ownBlock] at hk; omega
  have H0 : Hid (Kept No w (w.alloc (.cells #[] 33)) ∧ TW kID 33 (w.alloc (.cells #[] 33)) No (.slice (some ⟨w.heap.size, 0, none⟩) 0 0) [] ∧ Fresh w (.slice (some ⟨w.heap.size, 0, none⟩) 0 0)) := ⟨k0, ht0, hf0⟩
  clear k0 ht0 hf0
  by_cases hneg : most < 0
  · have hl : listP most xs = [] := by unfold listP; rw [if_pos hneg]
    rw [hl]
    go_enter Try.func12, Try.ntmps12
    go_wp2
    go_ret
    exact ⟨_, rfl, H0.out.2.1, H0.out.2.2, H0.out.1⟩
  · have hwm : IntKind.u64.wrap most = most := by rw [IntKind.wrap_u64]; omega
    by_cases hbig : most < countI xs
    · have hl : listP most xs = [] := by unfold listP; rw [if_neg hneg, if_pos hbig]
      rw [hl]
      generalize countI xs = C at hcount hbig
      go_enter Try.func12, Try.ntmps12
      go_wp2_with (go_at_call 26; ((with_reducible refine hcount.mono ?_); rintro e w1 ⟨rfl, hk1⟩))
      go_ret
      exact ⟨_, rfl, H0.out.2.1.new hk1, H0.out.2.2, H0.out.1.trans hk1⟩
    · obtain ⟨C, hC⟩ : ∃ C, C = countI xs := ⟨_, rfl⟩
      rw [← hC] at hcount
      have hbig2 : ¬ most < C := by rw [hC]; exact hbig
      obtain ⟨A, c0, rfl, hc1, hc2⟩ := hv.slice
      simp only [maxLen] at hc2
      obtain ⟨n, hn⟩ : ∃ n, n = xs.length := ⟨_, rfl⟩
      rw [← hn] at hc1 hcount ⊢
      obtain ⟨L, hL⟩ : ∃ L, L = listP most xs := ⟨_, rfl⟩
      rw [← hL]
      have HH : Hid (n = xs.length ∧ countI xs ≤ 300 ∧ Sl kRun w F (.slice A xs.length c0) xs ∧ L = listP most xs ∧ ¬ most < 0 ∧ ¬ most < countI xs) := ⟨hn, by omega, hv, hL, hneg, hbig⟩
      clear hn hC hv hm hbig hL
      go_enter Try.func12, Try.ntmps12
      go_wp2_with (go_at_call 26; ((with_reducible refine hcount.mono ?_); rintro e w1 ⟨rfl, hk1⟩))
      have H1 : Hid (Kept No w w1 ∧ TW kID 33 w1 No (.slice (some ⟨w.heap.size, 0, none⟩) 0 0) []) := ⟨H0.out.1.trans hk1, H0.out.2.1.new hk1⟩
      clear hcount hk1
      go_loopw [22] (fun i wr => ∃ k : Nat, k ≤ n ∧ i = .int .i64 k ∧ (∀ y ∈ xs.take k, runI y = true) ∧ Kept No w wr ∧ TW kID 33 wr No (.slice (some ⟨w.heap.size, 0, none⟩) 0 0) []) (fun i _ => n - (intOf i).toNat)
      case atStart => exact ⟨0, Nat.zero_le _, by first | rfl | trivial, by simp, H1.out.1, H1.out.2⟩
      case round =>
        obtain ⟨k, hk, rfl, hrun, hke, htw⟩ := hrel
        by_cases hlt : k < n
        · obtain ⟨x, hx⟩ : ∃ x, xs[k]? = some x := ⟨_, List.getElem?_eq_getElem (by rw [← HH.out.1]; exact hlt)⟩
          rcases sl_runs HH.out.2.2.1 with ⟨e, _⟩ | ⟨_, _, b, off, c', e, _, _, _, _, hcx⟩
          · rw [e] at hx; simp at hx
          · simp only [Value.slice.injEq] at e
            obtain ⟨rfl, _, rfl⟩ := e
            obtain ⟨hok, hcell⟩ := hcx k x hx
            obtain ⟨x1, x2, x3⟩ := x
            simp only at hcell
            have HC : Hid (∀ i u, [Value.int .u8 x1, .int .u64 x2, .int .u64 x3][i]? = some u → wr.cell? ⟨b, off + k * 3 + i, none⟩ = some u) := fun i u hu => hke.cell (hcell i u hu) id
            have hcall := fun W => run_ref x1 x2 x3 W hok
            obtain ⟨bv, hbv⟩ : ∃ bv, bv = runI (x1, x2, x3) := ⟨_, rfl⟩
            rw [← hbv] at hcall
            have HB : Hid (bv = runI (x1, x2, x3) ∧ xs[k]? = some (x1, x2, x3) ∧ okRun (x1, x2, x3) ∧ (∀ y ∈ xs.take k, runI y = true) ∧ Kept No w wr ∧ TW kID 33 wr No (.slice (some ⟨w.heap.size, 0, none⟩) 0 0) []) := ⟨hbv, hx, hok, hrun, hke, htw⟩
            clear hbv hx hcell hke hok hrun hcx htw
            cases bv
            · go_wp2_with (first | (with_reducible refine wpList_load_whole rfl (.tmp 27) 40 rfl b (off + k * 3) rfl _ agg40 HC.out ?_) | (go_at_call 21; ((with_reducible refine (hcall _).mono ?_); rintro e w2 ⟨rfl, hk2⟩)))
              go_ret
              have hkw := HB.out.2.2.2.2.1.trans hk2
              refine ⟨_, rfl, ?_, fun i hi => ?_, hkw.alloc _⟩
              · rw [HH.out.2.2.2.1, list_no_run HB.out.2.1 HB.out.1.symm]
                exact TW.empty (heap_alloc_new _ _) id
              · have := hkw.size
                simp [Value.ownBlock] at hi
                omega
            · go_wp2_with (first | (with_reducible refine wpList_load_whole rfl (.tmp 27) 40 rfl b (off + k * 3) rfl _ agg40 HC.out ?_) | (go_at_call 21; ((with_reducible refine (hcall _).mono ?_); rintro e w2 ⟨rfl, hk2⟩)))
              go_roundw
              case rel => exact ⟨k + 1, by omega, by go_num, runs_take HB.out.2.1 HB.out.2.2.2.1 HB.out.1.symm, HB.out.2.2.2.2.1.trans hk2, HB.out.2.2.2.2.2.new hk2⟩
              case measure => simp [intOf]; omega
        · have hkn : k = n := by omega
          subst hkn
          have hall : ∀ y ∈ xs, runI y = true := by
            have hx : xs.take k = xs := by rw [HH.out.1]; simp
            rw [hx] at hrun; exact hrun
          have HA : Hid ((∀ y ∈ xs, runI y = true) ∧ Kept No w wr ∧ TW kID 33 wr No (.slice (some ⟨w.heap.size, 0, none⟩) 0 0) []) := ⟨hall, hke, htw⟩
          clear hall hrun hke htw
          go_wp2
          go_loopw [5, 35] (fun o i wi => ∃ m : Nat, m ≤ k ∧ i = .int .i64 m ∧ TW kID 33 wi No o (listI (xs.take m)) ∧ Fresh w o ∧ Kept No w wi) (fun _ i _ => k - (intOf i).toNat)
          case atStart => exact ⟨0, Nat.zero_le _, by first | rfl | trivial, HA.out.2.2, H0.out.2.2, HA.out.2.1⟩
          case round =>
            obtain ⟨m, hmk, rfl, htw, hfr, hke⟩ := hrel
            by_cases hlt2 : m < k
            · obtain ⟨x, hx⟩ : ∃ x, xs[m]? = some x := ⟨_, List.getElem?_eq_getElem (by rw [← HH.out.1]; exact hlt2)⟩
              rcases sl_runs HH.out.2.2.1 with ⟨e, _⟩ | ⟨_, _, b, off, c', e, _, _, _, _, hcx⟩
              · rw [e] at hx; simp at hx
              · simp only [Value.slice.injEq] at e
                obtain ⟨rfl, _, rfl⟩ := e
                obtain ⟨hok, hcell⟩ := hcx m x hx
                obtain ⟨x1, x2, x3⟩ := x
                simp only at hcell
                have hrx := HA.out.1 _ (List.mem_of_getElem? hx)
                have hr := runI_iff.1 hrx
                simp only at hr
                have ho := okRun_iff.1 hok
                simp only at ho
                have hroom := list_room hx (fun y hy => HA.out.1 y (List.mem_of_mem_take hy)) hrx HH.out.2.1
                simp only at hroom
                obtain ⟨cn, hcn⟩ : ∃ cn : Nat, x3 = cn := ⟨x3.toNat, by omega⟩
                subst hcn
                have HC : Hid (∀ W, Kept No w W → W.cell? ⟨b, off + m * 3, none⟩ = some (.int .u8 x1) ∧ W.cell? ⟨b, off + m * 3 + 1, none⟩ = some (.int .u64 x2) ∧ W.cell? ⟨b, off + m * 3 + 2, none⟩ = some (.int .u64 cn)) := fun W hW => ⟨hW.cell (hcell 0 _ rfl) id, hW.cell (hcell 1 _ rfl) id, hW.cell (hcell 2 _ rfl) id⟩
                have HR : Hid ((1 ≤ x2 ∧ x2 + cn ≤ 4611686018427387905 ∧ 0 ≤ x1 ∧ x1 ≤ 255) ∧ (listI (xs.take m)).length + cn ≤ 300 ∧ xs[m]? = some (x1, x2, (cn : Int))) := ⟨by omega, by omega, hx⟩
                have HK : Hid (TW kID 33 wr No u5 (listI (xs.take m)) ∧ Fresh w u5 ∧ Kept No w wr) := ⟨htw, hfr, hke⟩
                have hcn3 : cn ≤ 300 := by omega
                clear hr ho hroom hcx hcell hok hx hrx htw hfr hke
                go_wp2
                go_loopw [5, 8] (fun o i wi => ∃ j : Nat, j ≤ cn ∧ i = .int .u64 j ∧ TW kID 33 wi No o (listI (xs.take m) ++ (idsOf (x1, x2, (cn : Int))).take j) ∧ Fresh w o ∧ Kept No w wi) (fun _ i _ => cn - (intOf i).toNat)
                case atStart => exact ⟨0, Nat.zero_le _, by first | rfl | trivial, by simpa using HK.out.1, HK.out.2.1, HK.out.2.2⟩
                case round =>
                  obtain ⟨j, hj, rfl, htw, hfr, hke⟩ := hrel
                  obtain ⟨y0, y1, y2⟩ := HC.out wr hke
                  by_cases hjl : j < cn
                  · obtain ⟨z0, z1, z2⟩ := HC.out wr.drew hke.drew
                    obtain ⟨p, hp⟩ : ∃ p : PID, p = (x1, x2 + (j : Int)) := ⟨_, rfl⟩
                    have hw64 : IntKind.u64.wrap (x2 + (j : Int)) = x2 + (j : Int) := by have := HR.out.1; rw [IntKind.wrap_u64]; omega
                    have hokp : okID p := by rw [hp, okID_iff]; have := HR.out.1; simp only; omega
                    have ka : Kept No wr (wr.drew.alloc (.cells #[.int .u8 p.1, .int .u64 p.2] 33)) := ((Kept.refl _ _).drew).alloc _
                    obtain ⟨Z, hZ⟩ : ∃ Z, Z = listI (xs.take m) ++ (idsOf (x1, x2, (cn : Int))).take j := ⟨_, rfl⟩
                    rw [← hZ] at htw
                    have hZl : Z.length ≤ 299 := by
                      rw [hZ, List.length_append, List.length_take]
                      have := HR.out.2.1
                      omega
                    have hsr := src_new2 (w := wr.drew) (N := wr.drew.heap.size) (e := 33) (a := .int .u8 p.1) (b := .int .u64 p.2) rfl rfl rfl
                    have HT : Hid (TW kID 33 (wr.drew.alloc (.cells #[.int .u8 p.1, .int .u64 p.2] 33)) No u5 Z ∧ Src (wr.drew.alloc (.cells #[.int .u8 p.1, .int .u64 p.2] 33)) (fun k => k = wr.drew.heap.size) 2 (.slice (some ⟨wr.drew.heap.size, 0, none⟩) 1 1) 1 [.int .u8 p.1, .int .u64 p.2] ∧ okID p ∧ Z.length ≤ 299) := ⟨htw.new ka, hsr, hokp, hZl⟩
                    have HE : Hid (Fresh w u5 ∧ Kept No w wr ∧ Z ++ [p] = listI (xs.take m) ++ (idsOf (x1, x2, (cn : Int))).take (j + 1)) := ⟨hfr, hke, by
                      rw [hZ, hp, idsOf_take (x := (x1, x2, (cn : Int))) (by simpa using hjl), List.append_assoc]⟩
                    rw [hp] at HT
                    simp only at HT
                    clear hZ hZl hsr ka hokp htw hfr hke
                    go_wp2
                    refine wp_region_plan No (.pur 0 (.pur 1 (.pur 2 (.pur 3 (.pur 4 (.pur 6 (.pur 7 (.pur 8 (.pur 9 (.pur 11 (.rd 5 (.rd 10 (.pur 12 (.pur 13 (.grow 14 (.act 15 (.pur 16 .fin))))))))))))))))) [15] mixed (by kernel_rfl) ?_
                    repeat ((first | refine pl_pur (by simp only [List.getD_cons_succ, List.getD_cons_zero]; rfl) _ (by rfl) (fun W => by go_simp; with_reducible rfl) ?_ | refine pl_rd (by simp only [List.getD_cons_succ, List.getD_cons_zero]; rfl) _ (by rfl) (fun W hW => by have hc := hW.cell (z0) id; clear hW; go_simp; with_reducible rfl) ?_ | refine pl_rd (by simp only [List.getD_cons_succ, List.getD_cons_zero]; rfl) _ (by rfl) (fun W hW => by have hc := hW.cell (z1) id; clear hW; go_simp; with_reducible rfl) ?_); simp only [Act.put, List.setIfInBounds_toArray, List.set_cons_zero, List.set_cons_succ])
                    refine pl_grow (by simp only [List.getD_cons_succ, List.getD_cons_zero]; rfl) ?_
                    go_wp2
                    refine GPost.mk ((Kept.refl _ _).alloc _) ?_
                    refine pl_act (by simp only [List.getD_cons_succ, List.getD_cons_zero]; rfl) ?_
                    refine wpList_append_tw (d := kID) (G := No) (F := fun k' => k' = wr.drew.heap.size) rfl (.tmp 47) (.tmp 61) 22 rfl 33 (.agg #[.int .u8 0, .int .u64 0]) 16 Try.underlying22 cinfo_ids rfl _ _ 1 Z [(x1, x2 + (j : Int))] [.int .u8 x1, .int .u64 (x2 + (j : Int))] rfl HT.out.1 rfl HT.out.2.1 (reps_id HT.out.2.2.1) rfl (fun _ h => h.elim) ?_ ?_ ?_
                    · have := HT.out.2.2.2; simp only [maxLen]; omega
                    · have := HT.out.2.2.2; omega
                    · intro v' w' htw2 hk2 hb2
                      have e1 := HE.out.2.2
                      rw [hp] at e1
                      rw [e1] at htw2
                      have HF : Hid (TW kID 33 w' No v' (listI (xs.take m) ++ (idsOf (x1, x2, (cn : Int))).take (j + 1)) ∧ Fresh w v' ∧ Kept No w w') := ⟨htw2, HE.out.1.next (w := wr.drew.alloc (.cells #[.int .u8 x1, .int .u64 (x2 + (j : Int))] 33)) (by have := HE.out.2.1.size; simp; omega) hb2, (HE.out.2.1.drew.alloc _).fresh hk2 HE.out.1⟩
                      clear htw2 hk2 hb2 e1 y0 y1 y2 z0 z1 z2
                      simp only [wpList]
                      refine APost.mk ?_
                      simp only [Act.put, List.setIfInBounds_toArray, List.set_cons_zero, List.set_cons_succ]
                      repeat ((first | refine pl_pur (by simp only [List.getD_cons_succ, List.getD_cons_zero]; rfl) _ (by rfl) (fun W => by go_simp; with_reducible rfl) ?_ | refine pl_rd (by simp only [List.getD_cons_succ, List.getD_cons_zero]; rfl) _ (by rfl) (fun W hW => by have hc := kcell hW; clear hW; go_simp; with_reducible rfl) ?_); simp only [Act.put, List.setIfInBounds_toArray, List.set_cons_zero, List.set_cons_succ])
                      refine pl_fin ?_
                      go_wp2
                      go_roundw
                      case rel => exact ⟨j + 1, by omega, by go_num, HF.out.1, HF.out.2.1, HF.out.2.2⟩
                      case measure => simp [intOf]; omega
                  · have : j = cn := by omega
                    subst this
                    have e2 : listI (xs.take (m + 1)) = listI (xs.take m) ++ (idsOf (x1, x2, (j : Int))).take j := by
                      rw [listI_take HR.out.2.2]
                      congr 1
                      rw [List.take_of_length_le]
                      rw [idsOf_len]; simp
                    rw [← e2] at htw
                    have HF : Hid (TW kID 33 wr No u5 (listI (xs.take (m + 1))) ∧ Fresh w u5 ∧ Kept No w wr) := ⟨htw, hfr, hke⟩
                    clear htw hfr hke e2
                    go_wp2
                    go_roundw
                    case rel => exact ⟨m + 1, by omega, by go_num, HF.out.1, HF.out.2.1, HF.out.2.2⟩
                    case measure => simp [intOf]; omega
            · go_wp2
              go_ret
              have : m = k := by omega
              subst this
              refine ⟨_, rfl, ?_, hfr, hke⟩
              have hx : xs.take m = xs := by rw [HH.out.1]; simp
              rw [hx] at htw
              rw [HH.out.2.2.2.1, list_all (by have := HH.out.2.2.2.2.1; omega) (by have := HH.out.2.2.2.2.2; omega) HA.out.1]
              exact htw
end Go.Proofs.Ytjokkmhndahnkaa
