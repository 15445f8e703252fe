/- The package ident, sixth part: Has, of both. -/
import Derived.Test.YtjokkmhndahnkaaI5
set_option linter.unusedVariables false
set_option linter.unusedSimpArgs false
namespace Go.Proofs.Ytjokkmhndahnkaa
open Go.RowKit

def hasOne (a : PID) (x : PRun) : Bool := runI x && decide (x.1 = a.1 ∧ x.2.1 ≤ a.2 ∧ a.2 < x.2.1 + x.2.2)
theorem hasI_any (a : PID) (l : List PRun) : hasI a l = l.any (hasOne a) := rfl
set_option maxRecDepth 20000 in
theorem pred_has (bq : Nat) (a1 a2 x1 x2 x3 : Int) (w : World) (hok : okRun (x1, x2, x3)) (ha : okID (a1, a2)) (h0 : w.cell? ⟨bq, 0, none⟩ = some (.int .u8 a1)) (h1 : w.cell? ⟨bq, 1, none⟩ = some (.int .u64 a2)) :
    Calls Try.prog 37 #[.agg #[.int .u8 x1, .int .u64 x2, .int .u64 x3], .pointer (some ⟨bq, 0, none⟩)] w fun e w' => e = .returned (.bool (hasOne (a1, a2) (x1, x2, x3))) ∧ Kept No w w' := by
  have hcall := fun W => run_op x1 x2 x3 W hok
  obtain ⟨bv, hbv⟩ : ∃ bv, bv = runI (x1, x2, x3) := ⟨_, rfl⟩
  obtain ⟨R, hR⟩ : ∃ R, R = hasOne (a1, a2) (x1, x2, x3) := ⟨_, rfl⟩
  rw [← hbv] at hcall
  rw [← hR]
  have HB : Hid (R = (bv && decide (x1 = a1 ∧ x2 ≤ a2 ∧ a2 < x2 + x3)) ∧ okRun (x1, x2, x3) ∧ okID (a1, a2)) := ⟨by rw [hR, hasOne, hbv], hok, ha⟩
  have HK : Hid (Kept No w (w.alloc (.cells #[.int .u8 x1, .int .u64 x2, .int .u64 x3] 40)) ∧ (∀ w2, Kept No (w.alloc (.cells #[.int .u8 x1, .int .u64 x2, .int .u64 x3] 40)) w2 → w2.cell? ⟨w.heap.size, 0, none⟩ = some (.int .u8 x1) ∧ w2.cell? ⟨w.heap.size, 1, none⟩ = some (.int .u64 x2) ∧ w2.cell? ⟨w.heap.size, 2, none⟩ = some (.int .u64 x3) ∧
    w2.cell? ⟨bq, 0, none⟩ = some (.int .u8 a1) ∧ w2.cell? ⟨bq, 1, none⟩ = some (.int .u64 a2))) :=
    ⟨(Kept.refl _ _).alloc _, fun w2 h2 => ⟨h2.cell (by simp) id, h2.cell (by simp) id, h2.cell (by simp) id, (((Kept.refl No w).alloc _).trans h2).cell h0 id, (((Kept.refl No w).alloc _).trans h2).cell h1 id⟩⟩
  clear hbv hR hok ha h0 h1
  cases bv
  · go_enter Try.func37, Try.ntmps37
    go_wp2_with (go_at_call 20; ((with_reducible refine (hcall _).mono ?_); rintro e w2 ⟨rfl, hk2⟩))
    go_ret
    exact ⟨ret_bool (by rw [HB.out.1]; simp), HK.out.1.trans hk2⟩
  · go_enter Try.func37, Try.ntmps37
    go_wp2_with (go_at_call 20; ((with_reducible refine (hcall _).mono ?_); rintro e w2 ⟨rfl, hk2⟩; obtain ⟨e0, e1, e2, e3, e4⟩ := HK.out.2 w2 hk2))
    all_goals
      go_ret
      refine ⟨ret_bool ?_, HK.out.1.trans hk2⟩
      have h1 := HB.out.1
      have h2 := okRun_iff.1 HB.out.2.1
      have h3 := okID_iff.1 HB.out.2.2
      clear hcall
      rw [h1]
      simp only [Bool.true_and, decide_eq_true_eq, beq_iff_eq, beq_eq_false_iff_ne, ne_eq, Bool.false_eq_true, false_iff, true_iff, IntKind.wrap_u64, Bool.not_eq_true, decide_eq_false_iff_not] at *
      omega

theorem idxP_any {α : Type} (p : α → Bool) (xs : List α) : decide (0 ≤ idxP p xs) = xs.any p := by
  unfold idxP
  cases h : xs.findIdx? p with
  | none =>
    rw [List.findIdx?_eq_none_iff] at h
    have : xs.any p = false := by rw [List.any_eq_false]; intro x hx; simp [h x hx]
    rw [this]; simp
  | some i =>
    obtain ⟨hlt, hp, _⟩ := List.findIdx?_eq_some_iff_getElem.1 h
    have : xs.any p = true := List.any_eq_true.2 ⟨_, List.getElem_mem hlt, hp⟩
    rw [this]; simp

set_option maxRecDepth 20000 in
theorem index_has (bq : Nat) (a : PID) (v : Value) (xs : List PRun) (w : World) (F : Nat → Prop) (hv : Sl kRun w F v xs) (ha : okID a) (h0 : w.cell? ⟨bq, 0, none⟩ = some (.int .u8 a.1)) (h1 : w.cell? ⟨bq, 1, none⟩ = some (.int .u64 a.2)) :
    Calls Try.prog 44 #[v, .func (.func 37) #[] #[.pointer (some ⟨bq, 0, none⟩)]] w fun e w' => e = .returned (.int .i64 (idxP (hasOne a) xs)) ∧ Kept No w w' := by
  rcases sl_runs hv with ⟨rfl, A', c', rfl⟩ | ⟨g0, g1, b, off, c', rfl, h2, h3, hF, hb, hcx⟩
  · go_enter Try.func44, Try.ntmps44
    go_wp2
    go_loopw [8] (fun i wr => i = .int .i64 0 ∧ w = wr) (fun _ _ => 0)
    case atStart => exact ⟨by first | rfl | trivial, by first | rfl | trivial⟩
    case round =>
      obtain ⟨rfl, rfl⟩ := hrel
      go_wp2
      go_ret
      exact ⟨rfl, Kept.refl _ _⟩
  · obtain ⟨n, hn⟩ : ∃ n, n = xs.length := ⟨_, rfl⟩
    rw [← hn] at g0 g1 h2 ⊢
    obtain ⟨p, hp⟩ : ∃ p, p = hasOne a := ⟨_, rfl⟩
    rw [← hp]
    have HH : Hid (n = xs.length ∧ p = hasOne a ∧
      (∀ j x, xs[j]? = some x → okRun x ∧ ∀ i u, [Value.int .u8 x.1, .int .u64 x.2.1, .int .u64 x.2.2][i]? = some u → w.cell? ⟨b, off + j * 3 + i, none⟩ = some u) ∧ okID a ∧ w.cell? ⟨bq, 0, none⟩ = some (.int .u8 a.1) ∧ w.cell? ⟨bq, 1, none⟩ = some (.int .u64 a.2)) := ⟨hn, hp, hcx, ha, h0, h1⟩
    clear hn hcx hv hp ha h0 h1
    go_enter Try.func44, Try.ntmps44
    go_wp2
    go_loopw [8] (fun i wr => ∃ k : Nat, k ≤ n ∧ i = .int .i64 k ∧ (∀ j y, j < k → xs[j]? = some y → p y = false) ∧ Kept No w wr) (fun i _ => n - (intOf i).toNat)
    case atStart => exact ⟨0, Nat.zero_le _, by first | rfl | trivial, fun _ _ h => absurd h (Nat.not_lt_zero _), Kept.refl _ _⟩
    case round =>
      obtain ⟨k, hk, rfl, hno, hke⟩ := hrel
      by_cases hlt : k < n
      · obtain ⟨x, hx⟩ : ∃ x, xs[k]? = some x := ⟨_, List.getElem?_eq_getElem (by rw [← HH.out.1]; exact hlt)⟩
        obtain ⟨hok, hcell⟩ := HH.out.2.2.1 k x hx
        obtain ⟨x1, x2, x3⟩ := x
        simp only at hcell
        have HC : Hid (∀ i u, [Value.int .u8 x1, .int .u64 x2, .int .u64 x3][i]? = some u → wr.cell? ⟨b, off + k * 3 + i, none⟩ = some u) := fun i u hu => hke.cell (hcell i u hu) id
        have hcall := pred_has bq a.1 a.2 x1 x2 x3 wr hok HH.out.2.2.2.1 (hke.cell HH.out.2.2.2.2.1 id) (hke.cell HH.out.2.2.2.2.2 id)
        obtain ⟨bv, hbv⟩ : ∃ bv, bv = p (x1, x2, x3) := ⟨_, rfl⟩
        rw [show hasOne (a.1, a.2) (x1, x2, x3) = bv by rw [hbv, HH.out.2.1]] at hcall
        have HN : Hid ((∀ j y, j < k → xs[j]? = some y → p y = false) ∧ Kept No w wr ∧ xs[k]? = some (x1, x2, x3) ∧ bv = p (x1, x2, x3)) := ⟨hno, hke, hx, hbv⟩
        clear hbv hx hcell hke hok hno
        cases bv
        · go_wp2_with (first | (with_reducible refine wpList_load_whole rfl (.tmp 14) 40 rfl b (off + k * 3) rfl _ agg40 HC.out ?_) | (go_at_call 37; ((with_reducible refine hcall.mono ?_); rintro e w2 ⟨rfl, hk2⟩)))
          go_roundw
          case rel =>
            refine ⟨k + 1, by omega, by go_num, fun j y hj hy => ?_, HN.out.2.1.trans hk2⟩
            rcases Nat.lt_or_ge j k with h | h
            · exact HN.out.1 j y h hy
            · have : j = k := by omega
              subst this
              have h1 := HN.out.2.2.1
              rw [hy] at h1
              injection h1 with h1
              rw [h1]
              exact HN.out.2.2.2.symm
          case measure => simp [intOf]; omega
        · go_wp2_with (first | (with_reducible refine wpList_load_whole rfl (.tmp 14) 40 rfl b (off + k * 3) rfl _ agg40 HC.out ?_) | (go_at_call 37; ((with_reducible refine hcall.mono ?_); rintro e w2 ⟨rfl, hk2⟩)))
          go_ret
          exact ⟨ret_int (idxP_hit HN.out.2.2.1 HN.out.2.2.2.symm HN.out.1).symm, HN.out.2.1.trans hk2⟩
      · go_wp2
        go_ret
        have : k = n := by omega
        subst this
        exact ⟨ret_int (idxP_miss fun j y hy => hno j y (by have := (List.getElem?_eq_some_iff.1 hy).1; have := HH.out.1; omega) hy).symm, hke⟩
theorem contains_has (bq : Nat) (a : PID) (v : Value) (xs : List PRun) (w : World) (F : Nat → Prop) (hv : Sl kRun w F v xs) (ha : okID a) (h0 : w.cell? ⟨bq, 0, none⟩ = some (.int .u8 a.1)) (h1 : w.cell? ⟨bq, 1, none⟩ = some (.int .u64 a.2)) :
    Calls Try.prog 36 #[v, .func (.func 37) #[] #[.pointer (some ⟨bq, 0, none⟩)]] w fun e w' => e = .returned (.bool (hasI a xs)) ∧ Kept No w w' := by
  have h := index_has bq a v xs w F hv ha h0 h1
  rw [hasI_any, ← idxP_any]
  generalize idxP (hasOne a) xs = r at h ⊢
  clear hv ha h0 h1
  go_enter Try.func36, Try.ntmps36
  go_wp2_with (go_at_call 44; ((with_reducible refine h.mono ?_); rintro e w2 ⟨rfl, hk2⟩))
  go_ret
  exact ⟨rfl, hk2⟩
theorem has_op (a : PID) (v : Value) (xs : List PRun) (w : World) (F : Nat → Prop) (hv : Sl kRun w F v xs) (ha : okID a) :
    Calls Try.prog 23 #[.agg #[.int .u8 a.1, .int .u64 a.2], v] w fun e w' => e = .returned (.bool (hasI a xs)) ∧ Kept No w w' := by
  obtain ⟨a1, a2⟩ := a
  have hk : Kept No w (w.alloc (.cells #[.int .u8 a1, .int .u64 a2] 33)) := (Kept.refl _ _).alloc _
  have h := contains_has w.heap.size (a1, a2) v xs (w.alloc (.cells #[.int .u8 a1, .int .u64 a2] 33)) F (hv.new hk) ha (by simp) (by simp)
  have HK : Hid (Kept No w (w.alloc (.cells #[.int .u8 a1, .int .u64 a2] 33))) := hk
  generalize hasI (a1, a2) xs = r at h ⊢
  clear hv ha hk
  go_enter Try.func23, Try.ntmps23
  go_wp2_with (go_at_call 36; ((with_reducible refine h.mono ?_); rintro e w2 ⟨rfl, hk2⟩))
  go_ret
  exact ⟨rfl, HK.out.trans hk2⟩

set_option maxRecDepth 20000 in
set_option maxHeartbeats 1000000 in
theorem has_ref (a : PID) (v : Value) (xs : List PRun) (w : World) (F : Nat → Prop) (hv : Sl kRun w F v xs) (ha : okID a) :
    Calls Try.prog 24 #[.agg #[.int .u8 a.1, .int .u64 a.2], v] w fun e w' => e = .returned (.bool (hasI a xs)) ∧ Kept No w w' := by
  obtain ⟨a1, a2⟩ := a
  simp only
  have hk : Kept No w (w.alloc (.cells #[.int .u8 a1, .int .u64 a2] 33)) := (Kept.refl _ _).alloc _
  rcases sl_runs hv with ⟨rfl, A', c', rfl⟩ | ⟨g0, g1, b, off, c', rfl, h2, h3, hF, hb, hcx⟩
  · go_enter Try.func24, Try.ntmps24
    go_wp2
    go_loopw [8] (fun i wr => i = .int .i64 0 ∧ wr = (w.alloc (.cells #[.int .u8 a1, .int .u64 a2] 33))) (fun _ _ => 0)
    case atStart => exact ⟨by first | rfl | trivial, by first | rfl | trivial⟩
    case round =>
      obtain ⟨rfl, rfl⟩ := hrel
      go_wp2
      go_ret
      exact ⟨rfl, hk⟩
  · obtain ⟨n, hn⟩ : ∃ n, n = xs.length := ⟨_, rfl⟩
    rw [← hn] at g0 g1 h2 ⊢
    obtain ⟨R, hR⟩ : ∃ R, R = hasI (a1, a2) xs := ⟨_, rfl⟩
    rw [← hR]
    have HH : Hid (n = xs.length ∧ R = xs.any (hasOne (a1, a2)) ∧
      (∀ j x, xs[j]? = some x → okRun x ∧ ∀ i u, [Value.int .u8 x.1, .int .u64 x.2.1, .int .u64 x.2.2][i]? = some u → w.cell? ⟨b, off + j * 3 + i, none⟩ = some u) ∧ okID (a1, a2)) := ⟨hn, by rw [hR, hasI_any], hcx, ha⟩
    have HK : Hid (Kept No w (w.alloc (.cells #[.int .u8 a1, .int .u64 a2] 33)) ∧ (∀ w2, Kept No (w.alloc (.cells #[.int .u8 a1, .int .u64 a2] 33)) w2 → w2.drew.cell? ⟨w.heap.size, 0, none⟩ = some (.int .u8 a1) ∧ w2.drew.cell? ⟨w.heap.size, 1, none⟩ = some (.int .u64 a2))) := ⟨hk, fun w2 h2 => ⟨h2.drew.cell (by simp) id, h2.drew.cell (by simp) id⟩⟩
    clear hn hcx hv hR ha hk
    go_enter Try.func24, Try.ntmps24
    go_wp2
    go_loopw [8] (fun i wr => ∃ k : Nat, k ≤ n ∧ i = .int .i64 k ∧ (∀ j y, j < k → xs[j]? = some y → hasOne (a1, a2) y = false) ∧ Kept No (w.alloc (.cells #[.int .u8 a1, .int .u64 a2] 33)) wr) (fun i _ => n - (intOf i).toNat)
    case atStart => exact ⟨0, Nat.zero_le _, by first | rfl | trivial, fun _ _ h => absurd h (Nat.not_lt_zero _), Kept.refl _ _⟩
    case round =>
      obtain ⟨k, hk, rfl, hno, hke⟩ := hrel
      by_cases hlt : k < n
      · obtain ⟨x, hx⟩ : ∃ x, xs[k]? = some x := ⟨_, List.getElem?_eq_getElem (by rw [← HH.out.1]; exact hlt)⟩
        obtain ⟨hok, hcell⟩ := HH.out.2.2.1 k x hx
        obtain ⟨x1, x2, x3⟩ := x
        simp only at hcell
        have HC : Hid (∀ W, Kept No wr W → ∀ i u, [Value.int .u8 x1, .int .u64 x2, .int .u64 x3][i]? = some u → W.cell? ⟨b, off + k * 3 + i, none⟩ = some u) := fun W hW i u hu => ((HK.out.1.trans hke).trans hW).cell (hcell i u hu) id
        have hcall := fun W => run_ref x1 x2 x3 W hok
        obtain ⟨bv, hbv⟩ : ∃ bv, bv = runI (x1, x2, x3) := ⟨_, rfl⟩
        rw [← hbv] at hcall
        have HN : Hid ((∀ j y, j < k → xs[j]? = some y → hasOne (a1, a2) y = false) ∧ Kept No (w.alloc (.cells #[.int .u8 a1, .int .u64 a2] 33)) wr ∧ xs[k]? = some (x1, x2, x3) ∧ bv = runI (x1, x2, x3) ∧ okRun (x1, x2, x3)) := ⟨hno, hke, hx, hbv, hok⟩
        have HM : Hid (∀ w', Kept No (w.alloc (.cells #[.int .u8 a1, .int .u64 a2] 33)) w' → hasOne (a1, a2) (x1, x2, x3) = false → ∃ m : Nat, m ≤ n ∧ Value.int .i64 ((k : Int) + 1) = .int .i64 m ∧ (∀ j y, j < m → xs[j]? = some y → hasOne (a1, a2) y = false) ∧ Kept No (w.alloc (.cells #[.int .u8 a1, .int .u64 a2] 33)) w') := fun w' hw' hf => by
          refine ⟨k + 1, by omega, rfl, fun j y hj hy => ?_, hw'⟩
          rcases Nat.lt_or_ge j k with h | h
          · exact hno j y h hy
          · have : j = k := by omega
            subst this
            rw [hy] at hx
            injection hx with hx
            rw [hx]; exact hf
        have HY : Hid (hasOne (a1, a2) (x1, x2, x3) = true → R = true) := fun h => by rw [HH.out.2.1]; exact List.any_eq_true.2 ⟨_, List.mem_of_getElem? hx, h⟩
        have HS : Hid (hasOne (a1, a2) (x1, x2, x3) = (bv && decide (x1 = a1 ∧ x2 ≤ a2 ∧ a2 < x2 + x3))) := by rw [hasOne, hbv]; exact rfl
        have HL : Hid (bv = true → ∀ W, Calls Try.prog 34 #[.agg #[.int .u8 x1, .int .u64 x2, .int .u64 x3]] W fun e w' => e = .returned (.int .u64 (x2 + x3 - 1)) ∧ Kept No W w') := fun h W => last_ref x1 x2 x3 W hok (by rw [← hbv, h])
        clear hbv hx hcell hke hok hno
        cases bv
        · go_wp2
          refine wp_region_plan No (.pur 0 (.pur 1 (.pur 2 (.rd 3 (.grow 4 (.pur 5 (.pur 6 (.pur 7 (.pur 8 (.pur 9 (.pur 11 (.rd 10 (.rd 12 (.pur 13 (.pur 14 (.pur 15 (.pur 16 (.pur 18 (.pur 19 (.pur 20 (.pur 21 (.rd 17 (.rd 22 (.pur 23 (.pur 24 (.pur 25 (.pur 26 (.pur 28 (.pur 29 (.pur 30 (.rd 27 (.rd 31 (.grow 32 (.pur 33 (.pur 34 .fin))))))))))))))))))))))))))))))))))) [] mixed (by kernel_rfl) ?_
          repeat ((first | refine pl_pur (by simp only [List.getD_cons_succ, List.getD_cons_zero]; rfl) _ (by rfl) (fun W => by go_simp; with_reducible rfl) ?_ | refine pl_rd (by simp only [List.getD_cons_succ, List.getD_cons_zero]; rfl) _ (by rfl) (fun W hW => by have hc := kcell hW; clear hW; go_simp; with_reducible rfl) ?_); simp only [Act.put, List.setIfInBounds_toArray, List.set_cons_zero, List.set_cons_succ])
          refine pl_loadw (by simp only [List.getD_cons_succ, List.getD_cons_zero]; rfl) (by rfl) (.tmp 13) 40 (by rfl) b (off + k * 3) (by rfl) _ agg40 (HC.out _ ((Kept.refl _ _).drew)) (fun h => h) ?_
          simp only [Act.put, List.setIfInBounds_toArray, List.set_cons_zero, List.set_cons_succ]
          refine pl_grow (by simp only [List.getD_cons_succ, List.getD_cons_zero]; rfl) ?_
          go_wp2_with (go_at_call 21; ((with_reducible refine (hcall _).mono ?_); rintro e w2 ⟨rfl, hk2⟩))
          refine GPost.mk hk2 ?_
          repeat ((first | refine pl_pur (by simp only [List.getD_cons_succ, List.getD_cons_zero]; rfl) _ (by rfl) (fun W => by go_simp; with_reducible rfl) ?_ | refine pl_rd (by simp only [List.getD_cons_succ, List.getD_cons_zero]; rfl) _ (by rfl) (fun W hW => by have hc := kcell hW; clear hW; go_simp; with_reducible rfl) ?_ | refine pl_skip (by simp only [List.getD_cons_succ, List.getD_cons_zero]; rfl) (by rfl) ?_ | refine pl_skip_rd (by simp only [List.getD_cons_succ, List.getD_cons_zero]; rfl) (by rfl) ?_ | refine pl_skip_grow (by simp only [List.getD_cons_succ, List.getD_cons_zero]; rfl) (by rfl) ?_ | refine pl_skip_act (by simp only [List.getD_cons_succ, List.getD_cons_zero]; rfl) (by rfl) ?_); simp only [Act.put, List.setIfInBounds_toArray, List.set_cons_zero, List.set_cons_succ])
          refine pl_fin ?_
          go_wp2
          go_roundw
          case rel => exact HM.out _ (HN.out.2.1.drew.trans hk2) (by rw [HS.out]; rfl)
          case measure => simp [intOf]; omega
        · have hl := HL.out rfl
          by_cases hc1 : x1 = a1
          · subst hc1
            by_cases hc2 : x2 ≤ a2
            · obtain ⟨cv, hcv⟩ : ∃ cv, cv = decide (a2 ≤ x2 + x3 - 1) := ⟨_, rfl⟩
              have hcv2 : decide (a2 ≤ x2 + x3 - 1) = cv := hcv.symm
              have HV : Hid (cv = decide (a2 ≤ x2 + x3 - 1) ∧ x2 ≤ a2) := ⟨hcv, hc2⟩
              clear hcv
              go_wp2
              refine wp_region_plan No (.pur 0 (.pur 1 (.pur 2 (.rd 3 (.grow 4 (.pur 5 (.pur 6 (.pur 7 (.pur 8 (.pur 9 (.pur 11 (.rd 10 (.rd 12 (.pur 13 (.pur 14 (.pur 15 (.pur 16 (.pur 18 (.pur 19 (.pur 20 (.pur 21 (.rd 17 (.rd 22 (.pur 23 (.pur 24 (.pur 25 (.pur 26 (.pur 28 (.pur 29 (.pur 30 (.rd 27 (.rd 31 (.grow 32 (.pur 33 (.pur 34 .fin))))))))))))))))))))))))))))))))))) [] mixed (by kernel_rfl) ?_
              repeat ((first | refine pl_pur (by simp only [List.getD_cons_succ, List.getD_cons_zero]; rfl) _ (by rfl) (fun W => by go_simp; with_reducible rfl) ?_ | refine pl_rd (by simp only [List.getD_cons_succ, List.getD_cons_zero]; rfl) _ (by rfl) (fun W hW => by have hc := kcell hW; clear hW; go_simp; with_reducible rfl) ?_); simp only [Act.put, List.setIfInBounds_toArray, List.set_cons_zero, List.set_cons_succ])
              refine pl_loadw (by simp only [List.getD_cons_succ, List.getD_cons_zero]; rfl) (by rfl) (.tmp 13) 40 (by rfl) b (off + k * 3) (by rfl) _ agg40 (HC.out _ ((Kept.refl _ _).drew)) (fun h => h) ?_
              simp only [Act.put, List.setIfInBounds_toArray, List.set_cons_zero, List.set_cons_succ]
              refine pl_grow (by simp only [List.getD_cons_succ, List.getD_cons_zero]; rfl) ?_
              go_wp2_with (go_at_call 21; ((with_reducible refine (hcall _).mono ?_); rintro e w2 ⟨rfl, hk2⟩))
              refine GPost.mk hk2 ?_
              have q0 : w2.cell? ⟨w.heap.size, 0, none⟩ = some (.int .u8 x1) := (HK.out.2 w2 (HN.out.2.1.trans ((Kept.refl _ _).drew.trans hk2))).1
              have q1 : w2.cell? ⟨w.heap.size, 1, none⟩ = some (.int .u64 a2) := (HK.out.2 w2 (HN.out.2.1.trans ((Kept.refl _ _).drew.trans hk2))).2
              have y0 : w2.cell? ⟨b, off + k * 3, none⟩ = some (.int .u8 x1) := HC.out w2 ((Kept.refl _ _).drew.trans hk2) 0 _ rfl
              have y1 : w2.cell? ⟨b, off + k * 3 + 1, none⟩ = some (.int .u64 x2) := HC.out w2 ((Kept.refl _ _).drew.trans hk2) 1 _ rfl
              repeat ((first | refine pl_pur (by simp only [List.getD_cons_succ, List.getD_cons_zero]; rfl) _ (by rfl) (fun W => by go_simp; with_reducible rfl) ?_ | refine pl_rd (by simp only [List.getD_cons_succ, List.getD_cons_zero]; rfl) _ (by rfl) (fun W hW => by have hc := hW.cell (q0) id; clear hW; go_simp; with_reducible rfl) ?_ | refine pl_rd (by simp only [List.getD_cons_succ, List.getD_cons_zero]; rfl) _ (by rfl) (fun W hW => by have hc := hW.cell (q1) id; clear hW; go_simp; with_reducible rfl) ?_ | refine pl_rd (by simp only [List.getD_cons_succ, List.getD_cons_zero]; rfl) _ (by rfl) (fun W hW => by have hc := hW.cell (y0) id; clear hW; go_simp; with_reducible rfl) ?_ | refine pl_rd (by simp only [List.getD_cons_succ, List.getD_cons_zero]; rfl) _ (by rfl) (fun W hW => by have hc := hW.cell (y1) id; clear hW; go_simp; with_reducible rfl) ?_); simp only [Act.put, List.setIfInBounds_toArray, List.set_cons_zero, List.set_cons_succ])
              refine pl_loadw (by simp only [List.getD_cons_succ, List.getD_cons_zero]; rfl) (by rfl) (.tmp 41) 40 (by rfl) b (off + k * 3) (by rfl) _ agg40 (HC.out _ ((Kept.refl _ _).drew.trans hk2)) (fun h => h) ?_
              simp only [Act.put, List.setIfInBounds_toArray, List.set_cons_zero, List.set_cons_succ]
              refine pl_grow (by simp only [List.getD_cons_succ, List.getD_cons_zero]; rfl) ?_
              go_wp2_with (go_at_call 34; ((with_reducible refine (hl _).mono ?_); rintro e w3 ⟨rfl, hk3⟩))
              refine GPost.mk hk3 ?_
              repeat ((first | refine pl_pur (by simp only [List.getD_cons_succ, List.getD_cons_zero]; rfl) _ (by rfl) (fun W => by go_simp; with_reducible rfl) ?_ | refine pl_rd (by simp only [List.getD_cons_succ, List.getD_cons_zero]; rfl) _ (by rfl) (fun W hW => by have hc := kcell hW; clear hW; go_simp; with_reducible rfl) ?_); simp only [Act.put, List.setIfInBounds_toArray, List.set_cons_zero, List.set_cons_succ])
              refine pl_fin ?_
              cases cv
              · go_wp2
                go_roundw
                case rel => exact HM.out _ ((HN.out.2.1.drew.trans hk2).trans hk3) (by rw [HS.out]; have := HV.out.1; simp at this ⊢; omega)
                case measure => simp [intOf]; omega
              · go_wp2
                go_ret
                exact ⟨ret_bool (by rw [HY.out (by rw [HS.out]; have := HV.out; simp at this ⊢; omega)]), ((HK.out.1.trans HN.out.2.1.drew).trans hk2).trans hk3⟩
            · go_wp2
              refine wp_region_plan No (.pur 0 (.pur 1 (.pur 2 (.rd 3 (.grow 4 (.pur 5 (.pur 6 (.pur 7 (.pur 8 (.pur 9 (.pur 11 (.rd 10 (.rd 12 (.pur 13 (.pur 14 (.pur 15 (.pur 16 (.pur 18 (.pur 19 (.pur 20 (.pur 21 (.rd 17 (.rd 22 (.pur 23 (.pur 24 (.pur 25 (.pur 26 (.pur 28 (.pur 29 (.pur 30 (.rd 27 (.rd 31 (.grow 32 (.pur 33 (.pur 34 .fin))))))))))))))))))))))))))))))))))) [] mixed (by kernel_rfl) ?_
              repeat ((first | refine pl_pur (by simp only [List.getD_cons_succ, List.getD_cons_zero]; rfl) _ (by rfl) (fun W => by go_simp; with_reducible rfl) ?_ | refine pl_rd (by simp only [List.getD_cons_succ, List.getD_cons_zero]; rfl) _ (by rfl) (fun W hW => by have hc := kcell hW; clear hW; go_simp; with_reducible rfl) ?_); simp only [Act.put, List.setIfInBounds_toArray, List.set_cons_zero, List.set_cons_succ])
              refine pl_loadw (by simp only [List.getD_cons_succ, List.getD_cons_zero]; rfl) (by rfl) (.tmp 13) 40 (by rfl) b (off + k * 3) (by rfl) _ agg40 (HC.out _ ((Kept.refl _ _).drew)) (fun h => h) ?_
              simp only [Act.put, List.setIfInBounds_toArray, List.set_cons_zero, List.set_cons_succ]
              refine pl_grow (by simp only [List.getD_cons_succ, List.getD_cons_zero]; rfl) ?_
              go_wp2_with (go_at_call 21; ((with_reducible refine (hcall _).mono ?_); rintro e w2 ⟨rfl, hk2⟩))
              refine GPost.mk hk2 ?_
              have q0 : w2.cell? ⟨w.heap.size, 0, none⟩ = some (.int .u8 x1) := (HK.out.2 w2 (HN.out.2.1.trans ((Kept.refl _ _).drew.trans hk2))).1
              have q1 : w2.cell? ⟨w.heap.size, 1, none⟩ = some (.int .u64 a2) := (HK.out.2 w2 (HN.out.2.1.trans ((Kept.refl _ _).drew.trans hk2))).2
              have y0 : w2.cell? ⟨b, off + k * 3, none⟩ = some (.int .u8 x1) := HC.out w2 ((Kept.refl _ _).drew.trans hk2) 0 _ rfl
              have y1 : w2.cell? ⟨b, off + k * 3 + 1, none⟩ = some (.int .u64 x2) := HC.out w2 ((Kept.refl _ _).drew.trans hk2) 1 _ rfl
              have hcd : decide (x2 ≤ a2) = false := decide_eq_false (by omega)
              have hcf : (x2 ≤ a2) = False := eq_false (by omega)
              repeat ((first | refine pl_pur (by simp only [List.getD_cons_succ, List.getD_cons_zero]; rfl) _ (by rfl) (fun W => by go_simp; with_reducible rfl) ?_ | refine pl_rd (by simp only [List.getD_cons_succ, List.getD_cons_zero]; rfl) _ (by rfl) (fun W hW => by have hc := hW.cell (q0) id; clear hW; go_simp; with_reducible rfl) ?_ | refine pl_rd (by simp only [List.getD_cons_succ, List.getD_cons_zero]; rfl) _ (by rfl) (fun W hW => by have hc := hW.cell (q1) id; clear hW; go_simp; with_reducible rfl) ?_ | refine pl_rd (by simp only [List.getD_cons_succ, List.getD_cons_zero]; rfl) _ (by rfl) (fun W hW => by have hc := hW.cell (y0) id; clear hW; go_simp; with_reducible rfl) ?_ | refine pl_rd (by simp only [List.getD_cons_succ, List.getD_cons_zero]; rfl) _ (by rfl) (fun W hW => by have hc := hW.cell (y1) id; clear hW; go_simp; with_reducible rfl) ?_ | refine pl_skip (by simp only [List.getD_cons_succ, List.getD_cons_zero]; rfl) (by rfl) ?_ | refine pl_skip_rd (by simp only [List.getD_cons_succ, List.getD_cons_zero]; rfl) (by rfl) ?_ | refine pl_skip_grow (by simp only [List.getD_cons_succ, List.getD_cons_zero]; rfl) (by rfl) ?_ | refine pl_skip_act (by simp only [List.getD_cons_succ, List.getD_cons_zero]; rfl) (by rfl) ?_); simp only [Act.put, List.setIfInBounds_toArray, List.set_cons_zero, List.set_cons_succ])
              refine pl_fin ?_
              go_wp2
              go_roundw
              case rel => exact HM.out _ (HN.out.2.1.drew.trans hk2) (by rw [HS.out]; simp; omega)
              case measure => simp [intOf]; omega
          · have hne : (x1 == a1) = false := by rw [beq_eq_false_iff_ne]; exact hc1
            go_wp2
            refine wp_region_plan No (.pur 0 (.pur 1 (.pur 2 (.rd 3 (.grow 4 (.pur 5 (.pur 6 (.pur 7 (.pur 8 (.pur 9 (.pur 11 (.rd 10 (.rd 12 (.pur 13 (.pur 14 (.pur 15 (.pur 16 (.pur 18 (.pur 19 (.pur 20 (.pur 21 (.rd 17 (.rd 22 (.pur 23 (.pur 24 (.pur 25 (.pur 26 (.pur 28 (.pur 29 (.pur 30 (.rd 27 (.rd 31 (.grow 32 (.pur 33 (.pur 34 .fin))))))))))))))))))))))))))))))))))) [] mixed (by kernel_rfl) ?_
            repeat ((first | refine pl_pur (by simp only [List.getD_cons_succ, List.getD_cons_zero]; rfl) _ (by rfl) (fun W => by go_simp; with_reducible rfl) ?_ | refine pl_rd (by simp only [List.getD_cons_succ, List.getD_cons_zero]; rfl) _ (by rfl) (fun W hW => by have hc := kcell hW; clear hW; go_simp; with_reducible rfl) ?_); simp only [Act.put, List.setIfInBounds_toArray, List.set_cons_zero, List.set_cons_succ])
            refine pl_loadw (by simp only [List.getD_cons_succ, List.getD_cons_zero]; rfl) (by rfl) (.tmp 13) 40 (by rfl) b (off + k * 3) (by rfl) _ agg40 (HC.out _ ((Kept.refl _ _).drew)) (fun h => h) ?_
            simp only [Act.put, List.setIfInBounds_toArray, List.set_cons_zero, List.set_cons_succ]
            refine pl_grow (by simp only [List.getD_cons_succ, List.getD_cons_zero]; rfl) ?_
            go_wp2_with (go_at_call 21; ((with_reducible refine (hcall _).mono ?_); rintro e w2 ⟨rfl, hk2⟩))
            refine GPost.mk hk2 ?_
            have q0 : w2.cell? ⟨w.heap.size, 0, none⟩ = some (.int .u8 a1) := (HK.out.2 w2 (HN.out.2.1.trans ((Kept.refl _ _).drew.trans hk2))).1
            have y0 : w2.cell? ⟨b, off + k * 3, none⟩ = some (.int .u8 x1) := HC.out w2 ((Kept.refl _ _).drew.trans hk2) 0 _ rfl
            repeat ((first | refine pl_pur (by simp only [List.getD_cons_succ, List.getD_cons_zero]; rfl) _ (by rfl) (fun W => by go_simp; with_reducible rfl) ?_ | refine pl_rd (by simp only [List.getD_cons_succ, List.getD_cons_zero]; rfl) _ (by rfl) (fun W hW => by have hc := hW.cell (q0) id; clear hW; go_simp; with_reducible rfl) ?_ | refine pl_rd (by simp only [List.getD_cons_succ, List.getD_cons_zero]; rfl) _ (by rfl) (fun W hW => by have hc := hW.cell (y0) id; clear hW; go_simp; with_reducible rfl) ?_ | refine pl_skip (by simp only [List.getD_cons_succ, List.getD_cons_zero]; rfl) (by rfl) ?_ | refine pl_skip_rd (by simp only [List.getD_cons_succ, List.getD_cons_zero]; rfl) (by rfl) ?_ | refine pl_skip_grow (by simp only [List.getD_cons_succ, List.getD_cons_zero]; rfl) (by rfl) ?_ | refine pl_skip_act (by simp only [List.getD_cons_succ, List.getD_cons_zero]; rfl) (by rfl) ?_); simp only [Act.put, List.setIfInBounds_toArray, List.set_cons_zero, List.set_cons_succ])
            refine pl_fin ?_
            go_wp2
            go_roundw
            case rel => exact HM.out _ (HN.out.2.1.drew.trans hk2) (by rw [HS.out]; simp; omega)
            case measure => simp [intOf]; omega
      · go_wp2
        go_ret
        have : k = n := by omega
        subst this
        refine ⟨ret_bool ?_, HK.out.1.trans hke⟩
        have hf : R = false := by
          rw [HH.out.2.1, List.any_eq_false]
          intro x hx
          obtain ⟨j, hj⟩ := List.mem_iff_getElem?.1 hx
          simp [hno j x (by rw [HH.out.1]; exact (List.getElem?_eq_some_iff.1 hj).1) hj]
        rw [hf]
end Go.Proofs.Ytjokkmhndahnkaa
