/- The package ident, third part: in; Count, of both. -/
import Derived.Test.YtjokkmhndahnkaaI2
set_option linter.unusedVariables false
set_option linter.unusedSimpArgs false
namespace Go.Proofs.Ytjokkmhndahnkaa
open Go.RowKit

set_option maxRecDepth 20000 in
theorem in_ref (v : Value) (xs : List PID) (q : PID) (w : World) (F : Nat → Prop) (hv : Sl kID w F v xs) : Calls Try.prog 35 #[v, .agg #[.int .u8 q.1, .int .u64 q.2]] w fun e w' => e = .returned (.bool (decide (q ∈ xs))) ∧ Kept No w w' := by
  obtain ⟨q1, q2⟩ := q
  simp only
  rcases sl_ids hv with ⟨rfl, A', c', rfl⟩ | ⟨h0, h1, b, off, c', rfl, h2, h3, hF, hb, hcx⟩
  · have hk : Kept No w (w.alloc (.cells #[.int .u8 q1, .int .u64 q2] 33)) := (Kept.refl _ _).alloc _
    go_enter Try.func35, Try.ntmps35
    go_wp2
    go_loopw [8] (fun i wr => i = .int .i64 0 ∧ wr = (w.alloc (.cells #[.int .u8 q1, .int .u64 q2] 33))) (fun _ _ => 0)
    case atStart => exact ⟨by first | rfl | trivial, by first | rfl | trivial⟩
    case round =>
      obtain ⟨rfl, rfl⟩ := hrel
      go_wp2
      go_ret
      exact ⟨by simp, hk⟩
  · obtain ⟨n, hn⟩ : ∃ n, n = xs.length := ⟨_, rfl⟩
    rw [← hn] at h0 h1 h2 ⊢
    obtain ⟨R, hR⟩ : ∃ R, R = decide ((q1, q2) ∈ xs) := ⟨_, rfl⟩
    rw [← hR]
    have HH : Hid (n = xs.length ∧ R = decide ((q1, q2) ∈ xs) ∧
      (∀ j x, xs[j]? = some x → ∀ i u, [Value.int .u8 x.1, .int .u64 x.2][i]? = some u → w.cell? ⟨b, off + j * 2 + i, none⟩ = some u)) := ⟨hn, hR, fun j x hx => (hcx j x hx).2⟩
    clear hn hR hcx hv
    have hk : Kept No w (w.alloc (.cells #[.int .u8 q1, .int .u64 q2] 33)) := (Kept.refl _ _).alloc _
    have t0 : (w.alloc (.cells #[.int .u8 q1, .int .u64 q2] 33)).cell? ⟨w.heap.size, 0, none⟩ = some (.int .u8 q1) := by simp
    have t1 : (w.alloc (.cells #[.int .u8 q1, .int .u64 q2] 33)).cell? ⟨w.heap.size, 1, none⟩ = some (.int .u64 q2) := by simp
    have HK : Hid (Kept No w (w.alloc (.cells #[.int .u8 q1, .int .u64 q2] 33)) ∧ (w.alloc (.cells #[.int .u8 q1, .int .u64 q2] 33)).cell? ⟨w.heap.size, 0, none⟩ = some (.int .u8 q1) ∧ (w.alloc (.cells #[.int .u8 q1, .int .u64 q2] 33)).cell? ⟨w.heap.size, 1, none⟩ = some (.int .u64 q2)) := ⟨hk, t0, t1⟩
    clear hk t0 t1
    go_enter Try.func35, Try.ntmps35
    go_wp2
    go_loopw [8] (fun i wr => ∃ k : Nat, k ≤ n ∧ i = .int .i64 k ∧ (∀ (j : Nat) x, j < k → xs[j]? = some x → x ≠ (q1, q2)) ∧ Kept No (w.alloc (.cells #[.int .u8 q1, .int .u64 q2] 33)) wr) (fun i _ => n - (intOf i).toNat)
    case atStart => exact ⟨0, Nat.zero_le _, by first | rfl | trivial, fun _ _ h => absurd h (Nat.not_lt_zero _), Kept.refl _ _⟩
    case round =>
      obtain ⟨k, hk, rfl, hno, hke⟩ := hrel
      have HN : Hid ((∀ (j : Nat) x, j < k → xs[j]? = some x → x ≠ (q1, q2)) ∧ Kept No (w.alloc (.cells #[.int .u8 q1, .int .u64 q2] 33)) wr) := ⟨hno, hke⟩
      clear hno
      by_cases hlt : k < n
      · obtain ⟨x, hx⟩ : ∃ x, xs[k]? = some x := ⟨_, List.getElem?_eq_getElem (by rw [← HH.out.1]; exact hlt)⟩
        have hcell : ∀ i u, [Value.int .u8 x.1, .int .u64 x.2][i]? = some u → wr.drew.cell? ⟨b, off + k * 2 + i, none⟩ = some u := fun i u hu => hke.cell (HK.out.1.cell (HH.out.2.2 k x hx i u hu) id) id
        have HC : Hid ((∀ i u, [Value.int .u8 x.1, .int .u64 x.2][i]? = some u → wr.drew.cell? ⟨b, off + k * 2 + i, none⟩ = some u) ∧ (∀ i u, [Value.int .u8 (q1, q2).1, .int .u64 (q1, q2).2][i]? = some u → wr.drew.cell? ⟨w.heap.size, 0 + i, none⟩ = some u)) := ⟨hcell, two_cells (hke.cell HK.out.2.1 id) (hke.cell HK.out.2.2 id)⟩
        obtain ⟨bv, hbv⟩ : ∃ bv, bv = decide (x = (q1, q2)) := ⟨_, rfl⟩
        have HB : Hid (bv = decide (x = (q1, q2)) ∧ xs[k]? = some x) := ⟨hbv, hx⟩
        clear hbv hx hcell hke
        go_wp2
        refine wp_region_plan No (.pur 0 (.pur 1 (.pur 2 (.rd 3 (.rd 4 (.pur 5 .fin)))))) [] mixed (by kernel_rfl) ?_
        repeat ((first | refine pl_pur (by simp only [List.getD_cons_succ, List.getD_cons_zero]; rfl) _ (by rfl) (fun W => by go_simp; with_reducible rfl) ?_ | refine pl_rd (by simp only [List.getD_cons_succ, List.getD_cons_zero]; rfl) _ (by rfl) (fun W hW => by have hc := kcell hW; clear hW; go_simp; with_reducible rfl) ?_); simp only [Act.put, List.setIfInBounds_toArray, List.set_cons_zero, List.set_cons_succ])
        refine pl_loadw (by simp only [List.getD_cons_succ, List.getD_cons_zero]; rfl) (by rfl) (.tmp 13) 33 (by rfl) b (off + k * 2) (by rfl) _ agg33 HC.out.1 (fun h => h) ?_
        simp only [Act.put, List.setIfInBounds_toArray, List.set_cons_zero, List.set_cons_succ]
        refine pl_loadw (by simp only [List.getD_cons_succ, List.getD_cons_zero]; rfl) (by rfl) (.tmp 3) 33 (by rfl) w.heap.size 0 (by rfl) _ agg33 HC.out.2 (fun h => h) ?_
        simp only [Act.put, List.setIfInBounds_toArray, List.set_cons_zero, List.set_cons_succ]
        refine pl_pur (by simp only [List.getD_cons_succ, List.getD_cons_zero]; rfl) _ (by rfl) (exec_eql33 HB.out.1 (by rfl) (by rfl) (by rfl)) ?_
        simp only [Act.put, List.setIfInBounds_toArray, List.set_cons_zero, List.set_cons_succ]
        refine pl_fin ?_
        cases bv
        · go_wp2
          go_roundw
          case rel =>
            refine ⟨k + 1, by omega, by go_num, fun j y hj hy => ?_, HN.out.2.drew⟩
            rcases Nat.lt_or_ge j k with h | h
            · exact HN.out.1 j y h hy
            · have : j = k := by omega
              subst this
              have h1 := HB.out
              rw [hy] at h1
              have h2 := h1.2
              injection h2 with h2
              subst h2
              simpa using h1.1
          case measure => simp [intOf]; omega
        · go_wp2
          go_ret
          refine ⟨ret_bool ?_, HK.out.1.trans HN.out.2.drew⟩
          rw [HH.out.2.1]
          have h1 := HB.out
          simp only [decide_eq_true_eq, true_iff]
          have h2 : x = (q1, q2) := by simpa using h1.1
          rw [← h2]
          exact List.mem_of_getElem? h1.2
      · go_wp2
        go_ret
        refine ⟨ret_bool ?_, HK.out.1.trans HN.out.2⟩
        have : k = n := by omega
        subst this
        rw [HH.out.2.1]
        simp only [decide_eq_true_eq, Bool.false_eq_true, false_iff]
        intro hm
        obtain ⟨j, hj⟩ := List.mem_iff_getElem?.1 hm
        exact HN.out.1 j _ (by rw [HH.out.1]; exact (List.getElem?_eq_some_iff.1 hj).1) hj rfl

theorem count_true {xs : List PRun} {k : Nat} {x : PRun} (hx : xs[k]? = some x) (h : runI x = true) : countI (xs.take (k + 1)) = min (countI (xs.take k) + x.2.2) 4611686018427387904 := by rw [countI_snoc hx, if_pos h]
theorem count_false {xs : List PRun} {k : Nat} {x : PRun} (hx : xs[k]? = some x) (h : runI x = false) : countI (xs.take (k + 1)) = countI (xs.take k) := by rw [countI_snoc hx, h]; rfl

set_option maxRecDepth 20000 in
theorem count_op (v : Value) (xs : List PRun) (w : World) (F : Nat → Prop) (hv : Sl kRun w F v xs) : Calls Try.prog 25 #[v] w fun e w' => e = .returned (.int .u64 (countI xs)) ∧ Kept No w w' := by
  rcases sl_runs hv with ⟨rfl, A', c', rfl⟩ | ⟨h0, h1, b, off, c', rfl, h2, h3, hF, hb, hcx⟩
  · go_enter Try.func25, Try.ntmps25
    go_wp2
    go_loopw [3, 8] (fun n i wr => n = .int .u64 0 ∧ i = .int .i64 0 ∧ w = wr) (fun _ _ _ => 0)
    case atStart => exact ⟨by first | rfl | trivial, by first | rfl | trivial, by first | rfl | trivial⟩
    case round =>
      obtain ⟨rfl, rfl, rfl⟩ := hrel
      go_wp2
      go_ret
      exact ⟨rfl, Kept.refl _ _⟩
  · obtain ⟨n, hn⟩ : ∃ n, n = xs.length := ⟨_, rfl⟩
    rw [← hn] at h0 h1 h2 ⊢
    obtain ⟨C, hC⟩ : ∃ C, C = fun k => countI (xs.take k) := ⟨_, rfl⟩
    have HH : Hid (n = xs.length ∧ C = (fun k => countI (xs.take k)) ∧
      (∀ j x, xs[j]? = some x → okRun x ∧ ∀ i u, [Value.int .u8 x.1, .int .u64 x.2.1, .int .u64 x.2.2][i]? = some u → w.cell? ⟨b, off + j * 3 + i, none⟩ = some u)) := ⟨hn, hC, hcx⟩
    have hCn : countI xs = C n := by rw [hC, hn]; simp
    rw [hCn]
    have hC0 : C 0 = 0 := by rw [hC]; rfl
    clear hn hC hcx hv hCn
    go_enter Try.func25, Try.ntmps25
    go_wp2
    go_loopw [3, 8] (fun m i wr => ∃ k : Nat, k ≤ n ∧ m = .int .u64 (C k) ∧ i = .int .i64 k ∧ Kept No w wr) (fun _ i _ => n - (intOf i).toNat)
    case atStart => exact ⟨0, Nat.zero_le _, by rw [hC0], by first | rfl | trivial, Kept.refl _ _⟩
    case round =>
      obtain ⟨k, hk, rfl, rfl, hke⟩ := hrel
      by_cases hlt : k < n
      · obtain ⟨x, hx⟩ : ∃ x, xs[k]? = some x := ⟨_, List.getElem?_eq_getElem (by rw [← HH.out.1]; exact hlt)⟩
        obtain ⟨hok, hcell⟩ := HH.out.2.2 k x hx
        obtain ⟨x1, x2, x3⟩ := x
        simp only at hcell
        have HC : Hid (∀ i u, [Value.int .u8 x1, .int .u64 x2, .int .u64 x3][i]? = some u → wr.cell? ⟨b, off + k * 3 + i, none⟩ = some u) := fun i u hu => hke.cell (hcell i u hu) id
        have hcall := fun W => run_op x1 x2 x3 W hok
        have hka : Kept No w (wr.alloc (.cells #[.int .u8 x1, .int .u64 x2, .int .u64 x3] 40)) := hke.alloc _
        have HK : Hid (Kept No w (wr.alloc (.cells #[.int .u8 x1, .int .u64 x2, .int .u64 x3] 40)) ∧ (∀ w2, Kept No (wr.alloc (.cells #[.int .u8 x1, .int .u64 x2, .int .u64 x3] 40)) w2 → w2.cell? ⟨wr.heap.size, 2, none⟩ = some (.int .u64 x3))) := ⟨hka, fun w2 h2 => h2.cell (by simp) id⟩
        obtain ⟨bv, hbv⟩ : ∃ bv, bv = runI (x1, x2, x3) := ⟨_, rfl⟩
        rw [← hbv] at hcall
        have HB : Hid (bv = runI (x1, x2, x3) ∧ xs[k]? = some (x1, x2, x3) ∧ okRun (x1, x2, x3)) := ⟨hbv, hx, hok⟩
        clear hbv hx hcell hke hok hka
        cases bv
        · have hCk : C (k + 1) = C k := by rw [HH.out.2.1]; exact count_false HB.out.2.1 HB.out.1.symm
          go_wp2_with (first | (with_reducible refine wpList_load_whole rfl (.tmp 10) 40 rfl b (off + k * 3) rfl _ agg40 HC.out ?_) | (go_at_call 20; ((with_reducible refine (hcall _).mono ?_); rintro e w2 ⟨rfl, hk2⟩)))
          go_roundw
          case rel => exact ⟨k + 1, by omega, by rw [hCk], by go_num, HK.out.1.trans hk2⟩
          case measure => simp [intOf]; omega
        · have hb := countI_bound (xs.take k)
          have hr := runI_iff.1 HB.out.1.symm
          have ho := okRun_iff.1 HB.out.2.2
          simp only at hr ho
          have hCk : C (k + 1) = min (C k + x3) 4611686018427387904 := by rw [HH.out.2.1]; exact count_true HB.out.2.1 HB.out.1.symm
          have hCk0 : C k = countI (xs.take k) := by rw [HH.out.2.1]
          rw [← hCk0] at hb
          have hw : IntKind.u64.wrap (C k + x3) = C k + x3 := by rw [IntKind.wrap_u64]; omega
          have HD : Hid (C (k + 1) = min (C k + x3) 4611686018427387904) := hCk
          clear hCk hCk0 hb hr ho
          go_wp2_with (first | (with_reducible refine wpList_load_whole rfl (.tmp 10) 40 rfl b (off + k * 3) rfl _ agg40 HC.out ?_) | (go_at_call 20; ((with_reducible refine (hcall _).mono ?_); rintro e w2 ⟨rfl, hk2⟩; have e2 := HK.out.2 w2 hk2)))
          go_roundw
          case rel => exact ⟨k + 1, by omega, by rw [HD.out]; exact congrArg (Value.int .u64) (by split <;> omega), by go_num, HK.out.1.trans hk2⟩
          case measure => simp [intOf]; omega
      · go_wp2
        go_ret
        have : k = n := by omega
        subst this
        exact ⟨rfl, hke⟩

set_option maxRecDepth 20000 in
theorem count_ref (v : Value) (xs : List PRun) (w : World) (F : Nat → Prop) (hv : Sl kRun w F v xs) : Calls Try.prog 26 #[v] w fun e w' => e = .returned (.int .u64 (countI xs)) ∧ Kept No w w' := by
  rcases sl_runs hv with ⟨rfl, A', c', rfl⟩ | ⟨h0, h1, b, off, c', rfl, h2, h3, hF, hb, hcx⟩
  · go_enter Try.func26, Try.ntmps26
    go_wp2
    go_loopw [3, 7] (fun n i wr => n = .int .u64 0 ∧ i = .int .i64 0 ∧ w = wr) (fun _ _ _ => 0)
    case atStart => exact ⟨by first | rfl | trivial, by first | rfl | trivial, by first | rfl | trivial⟩
    case round =>
      obtain ⟨rfl, rfl, rfl⟩ := hrel
      go_wp2
      go_ret
      exact ⟨rfl, Kept.refl _ _⟩
  · obtain ⟨n, hn⟩ : ∃ n, n = xs.length := ⟨_, rfl⟩
    rw [← hn] at h0 h1 h2 ⊢
    obtain ⟨C, hC⟩ : ∃ C, C = fun k => countI (xs.take k) := ⟨_, rfl⟩
    obtain ⟨T, hT⟩ : ∃ T, T = countI xs := ⟨_, rfl⟩
    have HH : Hid (n = xs.length ∧ C = (fun k => countI (xs.take k)) ∧
      (∀ j x, xs[j]? = some x → okRun x ∧ ∀ i u, [Value.int .u8 x.1, .int .u64 x.2.1, .int .u64 x.2.2][i]? = some u → w.cell? ⟨b, off + j * 3 + i, none⟩ = some u) ∧ T = C n ∧ T = countI xs) := ⟨hn, hC, hcx, by rw [hT, hC, hn]; simp, hT⟩
    rw [← hT]
    have hC0 : C 0 = 0 := by rw [hC]; rfl
    clear hn hC hcx hv hT
    go_enter Try.func26, Try.ntmps26
    go_wp2
    go_loopw [3, 7] (fun m i wr => ∃ k : Nat, k ≤ n ∧ m = .int .u64 (C k) ∧ i = .int .i64 k ∧ Kept No w wr) (fun _ i _ => n - (intOf i).toNat)
    case atStart => exact ⟨0, Nat.zero_le _, by rw [hC0], by first | rfl | trivial, Kept.refl _ _⟩
    case round =>
      obtain ⟨k, hk, rfl, rfl, hke⟩ := hrel
      by_cases hlt : k < n
      · obtain ⟨x, hx⟩ : ∃ x, xs[k]? = some x := ⟨_, List.getElem?_eq_getElem (by rw [← HH.out.1]; exact hlt)⟩
        obtain ⟨hok, hcell⟩ := HH.out.2.2.1 k x hx
        obtain ⟨x1, x2, x3⟩ := x
        simp only at hcell
        have HC : Hid (∀ i u, [Value.int .u8 x1, .int .u64 x2, .int .u64 x3][i]? = some u → wr.cell? ⟨b, off + k * 3 + i, none⟩ = some u) := fun i u hu => hke.cell (hcell i u hu) id
        have hcall := fun W => run_ref x1 x2 x3 W hok
        have HK : Hid (Kept No w wr ∧ (∀ w2, Kept No wr w2 → w2.cell? ⟨b, off + k * 3 + 2, none⟩ = some (.int .u64 x3))) := ⟨hke, fun w2 h2 => h2.cell (HC.out 2 _ rfl) id⟩
        obtain ⟨bv, hbv⟩ : ∃ bv, bv = runI (x1, x2, x3) := ⟨_, rfl⟩
        rw [← hbv] at hcall
        have HB : Hid (bv = runI (x1, x2, x3) ∧ xs[k]? = some (x1, x2, x3) ∧ okRun (x1, x2, x3)) := ⟨hbv, hx, hok⟩
        clear hbv hx hcell hke hok
        cases bv
        · have hCk : C (k + 1) = C k := by rw [HH.out.2.1]; exact count_false HB.out.2.1 HB.out.1.symm
          go_wp2_with (first | (with_reducible refine wpList_load_whole rfl (.tmp 12) 40 rfl b (off + k * 3) rfl _ agg40 HC.out ?_) | (go_at_call 21; ((with_reducible refine (hcall _).mono ?_); rintro e w2 ⟨rfl, hk2⟩)))
          go_roundw
          case rel => exact ⟨k + 1, by omega, by rw [hCk], by go_num, HK.out.1.trans hk2⟩
          case measure => simp [intOf]; omega
        · have hb := countI_bound (xs.take k)
          have hr := runI_iff.1 HB.out.1.symm
          have ho := okRun_iff.1 HB.out.2.2
          simp only at hr ho
          have hCk : C (k + 1) = min (C k + x3) 4611686018427387904 := by rw [HH.out.2.1]; exact count_true HB.out.2.1 HB.out.1.symm
          have hCk0 : C k = countI (xs.take k) := by rw [HH.out.2.1]
          rw [← hCk0] at hb
          have hw : IntKind.u64.wrap (C k + x3) = C k + x3 := by rw [IntKind.wrap_u64]; omega
          have hw2 : IntKind.u64.wrap (4611686018427387904 - C k) = 4611686018427387904 - C k := by rw [IntKind.wrap_u64]; omega
          by_cases hbig : 4611686018427387904 - C k < x3
          · have hfull : T = 4611686018427387904 := by rw [HH.out.2.2.2.2]; exact countI_full HB.out.2.1 HB.out.1.symm (by simp only; omega)
            have HD : Hid (T = 4611686018427387904) := hfull
            clear hfull hCk hCk0 hb hr ho
            go_wp2_with (first | (with_reducible refine wpList_load_whole rfl (.tmp 12) 40 rfl b (off + k * 3) rfl _ agg40 HC.out ?_) | (go_at_call 21; ((with_reducible refine (hcall _).mono ?_); rintro e w2 ⟨rfl, hk2⟩; have e2 := HK.out.2 w2 hk2)))
            go_ret
            exact ⟨ret_int HD.out.symm, HK.out.1.trans hk2⟩
          · have HD : Hid (C (k + 1) = C k + x3) := by rw [show C (k + 1) = C k + x3 by omega]; exact rfl
            clear hCk hCk0 hb hr ho
            go_wp2_with (first | (with_reducible refine wpList_load_whole rfl (.tmp 12) 40 rfl b (off + k * 3) rfl _ agg40 HC.out ?_) | (go_at_call 21; ((with_reducible refine (hcall _).mono ?_); rintro e w2 ⟨rfl, hk2⟩; have e2 := HK.out.2 w2 hk2)))
            go_roundw
            case rel => exact ⟨k + 1, by omega, by rw [HD.out], by go_num, HK.out.1.trans hk2⟩
            case measure => simp [intOf]; omega
      · go_wp2
        go_ret
        have : k = n := by omega
        subst this
        exact ⟨ret_int HH.out.2.2.2.1.symm, hke⟩
end Go.Proofs.Ytjokkmhndahnkaa
