/- The package ident, fourth part: Rows, of both. -/
import Derived.Test.YtjokkmhndahnkaaI3
set_option linter.unusedVariables false
set_option linter.unusedSimpArgs false
namespace Go.Proofs.Ytjokkmhndahnkaa
open Go.RowKit

theorem rows_no_run {xs : List PRun} {k : Nat} {x : PRun} (hx : xs[k]? = some x) (h : runI x = false) : rowsI xs = false := by
  cases hr : rowsI xs
  · rfl
  · have := rowsF_run hr x (List.mem_of_getElem? hx)
    rw [h] at this; cases this
theorem rows_no_step {xs : List PRun} {k : Nat} {p x : PRun} (hp : xs[k]? = some p) (hx : xs[k + 1]? = some x) (h : okStep p x = false) : rowsI xs = false := by
  refine rowsI_take_false (k := k + 1 + 1) ?_
  rw [rowsI_snoc hp hx, h]; simp
theorem rows_next {xs : List PRun} {k : Nat} {p x : PRun} (hp : xs[k]? = some p) (hx : xs[k + 1]? = some x) (h0 : rowsI (xs.take (k + 1)) = true) (h : okStep p x = true) (hr : runI x = true) : rowsI (xs.take (k + 1 + 1)) = true := by
  rw [rowsI_snoc hp hx, h0, h, hr]; rfl
theorem rows_prev {xs : List PRun} {k : Nat} {p : PRun} (hp : xs[k]? = some p) (h0 : rowsI (xs.take (k + 1)) = true) : runI p = true :=
  rowsF_run h0 p (by rw [take_succ_snoc hp]; simp)

set_option maxRecDepth 20000 in
theorem rows_op (v : Value) (xs : List PRun) (w : World) (F : Nat → Prop) (hv : Sl kRun w F v xs) : Calls Try.prog 22 #[v] w fun e w' => e = .returned (.bool (rowsI xs)) ∧ Kept No w w' := by
  rcases sl_runs hv with ⟨rfl, A', c', rfl⟩ | ⟨h0, h1, b, off, c', rfl, h2, h3, hF, hb, hcx⟩
  · go_enter Try.func22, Try.ntmps22
    go_wp2
    go_loopw [7] (fun i wr => i = .int .i64 0 ∧ w = wr) (fun _ _ => 0)
    case atStart => exact ⟨by first | rfl | trivial, by first | rfl | trivial⟩
    case round =>
      obtain ⟨rfl, rfl⟩ := hrel
      go_wp2
      go_ret
      exact ⟨rfl, Kept.refl _ _⟩
  · obtain ⟨n, hn⟩ : ∃ n, n = xs.length := ⟨_, rfl⟩
    rw [← hn] at h0 h1 h2 ⊢
    obtain ⟨T, hT⟩ : ∃ T, T = rowsI xs := ⟨_, rfl⟩
    have HH : Hid (n = xs.length ∧ T = rowsI xs ∧
      (∀ j x, xs[j]? = some x → okRun x ∧ ∀ i u, [Value.int .u8 x.1, .int .u64 x.2.1, .int .u64 x.2.2][i]? = some u → w.cell? ⟨b, off + j * 3 + i, none⟩ = some u)) := ⟨hn, hT, hcx⟩
    rw [← hT]
    clear hn hcx hv hT
    go_enter Try.func22, Try.ntmps22
    go_wp2
    go_loopw [7] (fun i wr => ∃ k : Nat, k ≤ n ∧ i = .int .i64 k ∧ rowsI (xs.take k) = true ∧ Kept No w wr) (fun i _ => n - (intOf i).toNat)
    case atStart => exact ⟨0, Nat.zero_le _, by first | rfl | trivial, rfl, Kept.refl _ _⟩
    case round =>
      obtain ⟨k, hk, rfl, hro, hke⟩ := hrel
      by_cases hlt : k < n
      · obtain ⟨x, hx⟩ : ∃ x, xs[k]? = some x := ⟨_, List.getElem?_eq_getElem (by rw [← HH.out.1]; exact hlt)⟩
        obtain ⟨hok, hcell⟩ := HH.out.2.2 k x hx
        obtain ⟨x1, x2, x3⟩ := x
        simp only at hcell
        have HC : Hid (∀ i u, [Value.int .u8 x1, .int .u64 x2, .int .u64 x3][i]? = some u → wr.cell? ⟨b, off + k * 3 + i, none⟩ = some u) := fun i u hu => hke.cell (hcell i u hu) id
        have hcall := fun W => run_op x1 x2 x3 W hok
        have hka : Kept No w (wr.alloc (.cells #[.int .u8 x1, .int .u64 x2, .int .u64 x3] 40)) := hke.alloc _
        have HK : Hid (Kept No w (wr.alloc (.cells #[.int .u8 x1, .int .u64 x2, .int .u64 x3] 40)) ∧ (∀ w2, Kept No (wr.alloc (.cells #[.int .u8 x1, .int .u64 x2, .int .u64 x3] 40)) w2 → w2.drew.cell? ⟨wr.heap.size, 0, none⟩ = some (.int .u8 x1) ∧ w2.drew.cell? ⟨wr.heap.size, 1, none⟩ = some (.int .u64 x2))) := ⟨hka, fun w2 h2 => ⟨h2.drew.cell (by simp) id, h2.drew.cell (by simp) id⟩⟩
        obtain ⟨bv, hbv⟩ : ∃ bv, bv = runI (x1, x2, x3) := ⟨_, rfl⟩
        rw [← hbv] at hcall
        have HB : Hid (bv = runI (x1, x2, x3) ∧ xs[k]? = some (x1, x2, x3) ∧ okRun (x1, x2, x3) ∧ rowsI (xs.take k) = true) := ⟨hbv, hx, hok, hro⟩
        clear hbv hx hcell hke hok hka hro
        cases bv
        · go_wp2_with (first | (with_reducible refine wpList_load_whole rfl (.tmp 10) 40 rfl b (off + k * 3) rfl _ agg40 HC.out ?_) | (go_at_call 20; ((with_reducible refine (hcall _).mono ?_); rintro e w2 ⟨rfl, hk2⟩)))
          go_ret
          exact ⟨ret_bool (by rw [HH.out.2.1, rows_no_run HB.out.2.1 HB.out.1.symm]), HK.out.1.trans hk2⟩
        · cases k with
          | zero =>
            go_wp2_with (first | (with_reducible refine wpList_load_whole rfl (.tmp 10) 40 rfl b (off + 0 * 3) rfl _ agg40 HC.out ?_) | (go_at_call 20; ((with_reducible refine (hcall _).mono ?_); rintro e w2 ⟨rfl, hk2⟩)))
            refine wp_region_plan No (.pur 0 (.pur 1 (.pur 2 (.pur 3 (.pur 4 (.pur 5 (.pur 6 (.pur 9 (.pur 11 (.rd 7 (.rd 10 (.rd 12 (.pur 13 (.grow 8 (.grow 14 (.pur 15 (.pur 16 .fin))))))))))))))))) [] mixed (by kernel_rfl) ?_
            repeat ((first | refine pl_pur (by simp only [List.getD_cons_succ, List.getD_cons_zero]; rfl) _ (by rfl) (fun W => by go_simp; with_reducible rfl) ?_ | refine pl_rd (by simp only [List.getD_cons_succ, List.getD_cons_zero]; rfl) _ (by rfl) (fun W hW => by have hc := kcell hW; clear hW; go_simp; with_reducible rfl) ?_ | refine pl_skip (by simp only [List.getD_cons_succ, List.getD_cons_zero]; rfl) (by rfl) ?_ | refine pl_skip_rd (by simp only [List.getD_cons_succ, List.getD_cons_zero]; rfl) (by rfl) ?_ | refine pl_skip_grow (by simp only [List.getD_cons_succ, List.getD_cons_zero]; rfl) (by rfl) ?_ | refine pl_skip_act (by simp only [List.getD_cons_succ, List.getD_cons_zero]; rfl) (by rfl) ?_); simp only [Act.put, List.setIfInBounds_toArray, List.set_cons_zero, List.set_cons_succ])
            refine pl_fin ?_
            go_wp2
            go_roundw
            case rel => exact ⟨1, by omega, by go_num, by rw [rowsI_snoc0 HB.out.2.1]; exact HB.out.1.symm, HK.out.1.trans hk2.drew⟩
            case measure => simp [intOf]; omega
          | succ m =>
            obtain ⟨p, hp⟩ : ∃ p, xs[m]? = some p := ⟨_, List.getElem?_eq_getElem (by rw [← HH.out.1]; omega)⟩
            obtain ⟨pok, pcell⟩ := HH.out.2.2 m p hp
            have prun := rows_prev hp HB.out.2.2.2
            obtain ⟨p1, p2, p3⟩ := p
            simp only at pcell
            have hb2 := fun W => behind_op p1 p2 p3 W pok prun
            have hl2 := fun W => less_op p1 (p2 + p3) x1 x2 W
            have hmn : m < n := by omega
            have hm1 : ((m : Int) + 1 - 1) = m := by omega
            have hm2 : IntKind.i64.wrap (m : Int) = m := by rw [IntKind.wrap_i64]; omega
            obtain ⟨sv, hsv⟩ : ∃ sv, sv = lessI (p1, p2 + p3) (x1, x2) := ⟨_, rfl⟩
            rw [← hsv] at hl2
            have HP : Hid (xs[m]? = some (p1, p2, p3) ∧ (∀ W, Kept No w W → ∀ i u, [Value.int .u8 p1, .int .u64 p2, .int .u64 p3][i]? = some u → W.cell? ⟨b, off + m * 3 + i, none⟩ = some u) ∧ sv = okStep (p1, p2, p3) (x1, x2, x3)) := ⟨hp, fun W hW i u hu => hW.cell (pcell i u hu) id, hsv⟩
            clear hp pcell pok prun hsv
            go_wp2_with (first | (with_reducible refine wpList_load_whole rfl (.tmp 10) 40 rfl b (off + (m + 1) * 3) rfl _ agg40 HC.out ?_) | (go_at_call 20; ((with_reducible refine (hcall _).mono ?_); rintro e w2 ⟨rfl, hk2⟩; have e2 := HK.out.2 w2 hk2; have e20 := e2.1; have e21 := e2.2; clear e2; have HQ : Hid (Kept No w w2.drew) := HK.out.1.trans hk2.drew)))
            refine wp_region_plan No (.pur 0 (.pur 1 (.pur 2 (.pur 3 (.pur 4 (.pur 5 (.pur 6 (.pur 9 (.pur 11 (.rd 7 (.rd 10 (.rd 12 (.pur 13 (.grow 8 (.grow 14 (.pur 15 (.pur 16 .fin))))))))))))))))) [] mixed (by kernel_rfl) ?_
            repeat ((first | refine pl_pur (by simp only [List.getD_cons_succ, List.getD_cons_zero]; rfl) _ (by rfl) (fun W => by go_simp; with_reducible rfl) ?_ | refine pl_rd (by simp only [List.getD_cons_succ, List.getD_cons_zero]; rfl) _ (by rfl) (fun W hW => by have hc := kcell hW; clear hW; go_simp; with_reducible rfl) ?_); simp only [Act.put, List.setIfInBounds_toArray, List.set_cons_zero, List.set_cons_succ])
            refine pl_loadw (by simp only [List.getD_cons_succ, List.getD_cons_zero]; rfl) (by rfl) (.tmp 21) 40 (by rfl) b (off + m * 3) (by rfl) _ agg40 (HP.out.2.1 _ HQ.out) (fun h => h) ?_
            simp only [Act.put, List.setIfInBounds_toArray, List.set_cons_zero, List.set_cons_succ]
            repeat ((first | refine pl_pur (by simp only [List.getD_cons_succ, List.getD_cons_zero]; rfl) _ (by rfl) (fun W => by go_simp; with_reducible rfl) ?_ | refine pl_rd (by simp only [List.getD_cons_succ, List.getD_cons_zero]; rfl) _ (by rfl) (fun W hW => by have hc := hW.cell (e20) id; clear hW; go_simp; with_reducible rfl) ?_ | refine pl_rd (by simp only [List.getD_cons_succ, List.getD_cons_zero]; rfl) _ (by rfl) (fun W hW => by have hc := hW.cell (e21) id; clear hW; go_simp; with_reducible rfl) ?_); simp only [Act.put, List.setIfInBounds_toArray, List.set_cons_zero, List.set_cons_succ])
            refine pl_grow (by simp only [List.getD_cons_succ, List.getD_cons_zero]; rfl) ?_
            go_wp2_with (go_at_call 33; ((with_reducible refine (hb2 _).mono ?_); rintro e w3 ⟨rfl, hk3⟩))
            refine GPost.mk hk3 ?_
            refine pl_grow (by simp only [List.getD_cons_succ, List.getD_cons_zero]; rfl) ?_
            go_wp2_with (go_at_call 14; ((with_reducible refine (hl2 _).mono ?_); rintro e w4 ⟨rfl, hk4⟩))
            refine GPost.mk hk4 ?_
            repeat ((first | refine pl_pur (by simp only [List.getD_cons_succ, List.getD_cons_zero]; rfl) _ (by rfl) (fun W => by go_simp; with_reducible rfl) ?_ | refine pl_rd (by simp only [List.getD_cons_succ, List.getD_cons_zero]; rfl) _ (by rfl) (fun W hW => by have hc := kcell hW; clear hW; go_simp; with_reducible rfl) ?_); simp only [Act.put, List.setIfInBounds_toArray, List.set_cons_zero, List.set_cons_succ])
            refine pl_fin ?_
            cases sv
            · go_wp2
              go_ret
              exact ⟨ret_bool (by rw [HH.out.2.1, rows_no_step HP.out.1 HB.out.2.1 HP.out.2.2.symm]), (HQ.out.trans hk3).trans hk4⟩
            · go_wp2
              go_roundw
              case rel => exact ⟨m + 1 + 1, by omega, by go_num, rows_next HP.out.1 HB.out.2.1 HB.out.2.2.2 HP.out.2.2.symm HB.out.1.symm, (HQ.out.trans hk3).trans hk4⟩
              case measure => simp [intOf]; omega
      · go_wp2
        go_ret
        have : k = n := by omega
        subst this
        exact ⟨ret_bool (by rw [HH.out.2.1, ← hro, HH.out.1]; simp), hke⟩
end Go.Proofs.Ytjokkmhndahnkaa
