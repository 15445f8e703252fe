/- The reference of the package matrix, first part: zeros, rise, May, Same, Of. -/
import Derived.Test.YtfnecdkfhackkaaL18b
set_option linter.unusedVariables false
set_option linter.unusedSimpArgs false
namespace Go.Proofs.Ytfnecdkfhackkaa
open Go.RowKit

set_option maxRecDepth 20000 in
theorem zeros_any (n : Nat) (hn : n ≤ 64) (w : World) : Calls Try.prog 52 #[.int .i64 n] w fun e w' => ∃ v', e = .returned v' ∧ TW (kI .u64) 26 w' No v' (List.replicate n 0) ∧ Fresh w v' ∧ Kept No w w' := by
  go_enter Try.func52, Try.ntmps52
  go_wp2
  go_loopw [3, 4] (fun o i wr => ∃ k : Nat, k ≤ n ∧ i = .int .i64 k ∧ TW (kI .u64) 26 wr No o (List.replicate k 0) ∧ Fresh w o ∧ Kept No w wr) (fun _ i _ => n - (intOf i).toNat)
  case atStart => exact ⟨0, Nat.zero_le _, rfl, TW.empty (heap_alloc_new _ _) (fun h => h), fun k hk => by simp only [Value.ownBlock, Option.some.injEq] at hk; omega, (Kept.refl _ _).alloc _⟩
  case round =>
    obtain ⟨k, hk, rfl, htw, hfr, hke⟩ := hrel
    by_cases hlt : k < n
    · have HQ : Hid (Fresh w u3 ∧ Kept No w wr ∧ TW (kI .u64) 26 wr No u3 (List.replicate k 0)) := ⟨hfr, hke, htw⟩
      have hl : (List.replicate k (0 : Int)).length ≤ 64 := by simp; omega
      have HL : Hid ((List.replicate k (0 : Int)).length ≤ 64) := hl
      have hA : Kept No wr (wr.alloc (.cells #[.int .u64 0] 26)) := (Kept.refl _ _).alloc _
      have HA : Hid (Kept No wr (wr.alloc (.cells #[.int .u64 0] 26))) := hA
      clear hfr hke htw hl hA
      go_wp2_with (at_builtin; go_must (refine wpList_append_tw (d := kI .u64) (G := No) (F := fun k' => k' = wr.heap.size) rfl (.tmp 11) (.tmp 12) 27 rfl 26 (.int .u64 0) 8 Try.underlying27 info_u64 rfl _ _ 1 _ [(0 : Int)] [.int .u64 0] rfl (HQ.out.2.2.new HA.out) rfl (src_new rfl) (reps_ints (by simp [inr_u64])) rfl (fun _ h => h.elim) ?_ ?_ ?_))
      · have := HL.out; simp only [maxLen]; omega
      · have := HL.out; omega
      · intro v' w' htw2 hk2 hb2
        have hf1 := HQ.out.1.next (v' := v') (w := wr.alloc (.cells #[.int .u64 0] 26)) (Nat.le_trans HQ.out.2.1.size HA.out.size) (by simpa using hb2)
        have hke2 := (HQ.out.2.1.trans HA.out).fresh hk2 HQ.out.1
        rw [← List.replicate_succ'] at htw2
        clear hk2 hb2
        go_wp2
        go_roundw
        case rel => exact ⟨k + 1, by omega, by go_num, htw2, hf1, hke2⟩
        case measure => simp [intOf]; omega
    · go_wp2
      go_ret
      have : k = n := by omega
      subst this
      exact ⟨_, rfl, htw, hfr, hke⟩

set_option maxRecDepth 20000 in
set_option maxHeartbeats 1000000 in
theorem r18rise_any (va vb : Value) (a b : List Int) (w : World) (F : Nat → Prop) (ha : Sl (kI .u64) w F va a) (hb : Sl (kI .u64) w F vb b) (hl : a.length ≤ 64) :
    Calls Try.prog 54 #[va, vb] w fun e w' => ∃ v', e = .returned v' ∧ TW (kI .u64) 26 w' No v' (vrise a b) ∧ Fresh w v' ∧ Kept No w w' := by
  obtain ⟨A, cA, rfl, _⟩ := ha.slice
  obtain ⟨B, cB, rfl, _⟩ := hb.slice
  obtain ⟨n, hn⟩ : ∃ n, n = a.length := ⟨_, rfl⟩
  have HN : Hid (n = a.length ∧ (∀ k x, a[k]? = some x → ∃ bb off, A = some ⟨bb, off, none⟩ ∧ w.cell? ⟨bb, off + k, none⟩ = some (.int .u64 x) ∧ bb < w.heap.size) ∧ (∀ x ∈ a, InR .u64 x) ∧ (∀ x ∈ b, InR .u64 x) ∧ Sl (kI .u64) w F (.slice B b.length cB) b) := by
    refine ⟨hn, fun k x hx => ?_, ha.inr, hb.inr, hb⟩
    rcases ha.ints with ⟨rfl, _⟩ | ⟨_, _, bb, off, c, hv, _, _, _, hlt, hc⟩
    · simp at hx
    · simp only [Value.slice.injEq] at hv
      exact ⟨bb, off, hv.1, (hc k x hx).1, hlt⟩
  have HV : Hid ((vrise a b).length = n ∧ ∀ k, k < n → (vrise a b).take (k + 1) = (vrise a b).take k ++ [max (vat a k) (vat b k)]) := by
    refine ⟨by rw [vrise_len, hn], fun k hk => take_snoc _ _ _ ?_⟩
    rw [vrise_get, if_pos (by omega)]
  rw [← hn] at hl ⊢
  clear ha hb hn
  go_enter Try.func54, Try.ntmps54
  go_wp2
  go_loopw [5, 11] (fun o i wr => ∃ k : Nat, k ≤ n ∧ i = .int .i64 k ∧ TW (kI .u64) 26 wr No o ((vrise a b).take k) ∧ Fresh w o ∧ Kept No w wr) (fun _ i _ => n - (intOf i).toNat)
  case atStart => exact ⟨0, Nat.zero_le _, rfl, TW.empty (heap_alloc_new _ _) (fun h => h), fun k hk => by simp only [Value.ownBlock, Option.some.injEq] at hk; omega, (Kept.refl _ _).alloc _⟩
  case round =>
    obtain ⟨k, hk, rfl, htw, hfr, hke⟩ := hrel
    by_cases hlt : k < n
    · obtain ⟨x, hx⟩ : ∃ x, a[k]? = some x := ⟨_, List.getElem?_eq_getElem (by rw [← HN.out.1]; exact hlt)⟩
      obtain ⟨bb, off, rfl, hc, hbb⟩ := HN.out.2.1 k x hx
      have hcc := hke.cell hc id
      have hbw : bb < wr.heap.size := World.block_lt_of_cell? wr _ hcc
      have hvx : vat a k = x := by unfold vat; rw [List.getD_eq_getElem?_getD, hx]; rfl
      have hsn := HV.out.2 k hlt
      rw [hvx] at hsn
      have HAT : Hid (∀ W, Kept No wr W → Calls Try.prog 27 #[.slice B b.length cB, .int .i64 k] W fun e w' => e = .returned (.int .u64 (vat b k)) ∧ W = w') := fun W hW => r4at_any _ b k W F ((HN.out.2.2.2.2.new hke).new hW)
      have hyr := inr_vat HN.out.2.2.2.1 k
      have hxr := HN.out.2.2.1 x (List.mem_of_getElem? hx)
      obtain ⟨y, hy⟩ : ∃ y, y = vat b k := ⟨_, rfl⟩
      rw [← hy] at hsn hyr
      have HY : Hid (y = vat b k) := hy
      have hl2 : ((vrise a b).take k).length ≤ 64 := by rw [List.length_take]; omega
      have HQ : Hid (Fresh w u5 ∧ Kept No w wr ∧ TW (kI .u64) 26 wr No u5 ((vrise a b).take k) ∧ ((vrise a b).take k).length ≤ 64) := ⟨hfr, hke, htw, hl2⟩
      clear hfr hke htw hl2 hx hc hbb hvx hy
      by_cases hxy : x < y
      · have hmx : max x y = y := by omega
        rw [hmx] at hsn
        have HSN : Hid ((vrise a b).take (k + 1) = (vrise a b).take k ++ [y] ∧ InR .u64 y) := ⟨hsn, hyr⟩
        have hA : Kept No wr (wr.alloc (.cells #[.int .u64 y] 26)) := (Kept.refl _ _).alloc _
        have HA : Hid (Kept No wr (wr.alloc (.cells #[.int .u64 y] 26))) := hA
        clear hsn hyr hxr hmx hA
        go_wp2_with (first | (go_at_call 27; ((with_reducible refine (HAT.out _ (Kept.refl _ _)).mono ?_); rintro e w2 ⟨rfl, rfl⟩; rw [← HY.out])) | (at_builtin; go_must (refine wpList_append_tw (d := kI .u64) (G := No) (F := fun k' => k' = wr.heap.size) rfl (.tmp 26) (.tmp 28) 27 rfl 26 (.int .u64 0) 8 Try.underlying27 info_u64 rfl _ _ 1 _ [y] [.int .u64 y] rfl (HQ.out.2.2.1.new HA.out) rfl (src_new rfl) (reps_ints (by simpa using HSN.out.2)) rfl (fun _ h => h.elim) ?_ ?_ ?_)))
        · have := HQ.out.2.2.2; simp only [maxLen]; omega
        · have := HQ.out.2.2.2; omega
        · intro v' w' htw2 hk2 hb2
          have hf1 := HQ.out.1.next (v' := v') (w := wr.alloc (.cells #[.int .u64 y] 26)) (Nat.le_trans HQ.out.2.1.size HA.out.size) (by simpa using hb2)
          have hke2 := (HQ.out.2.1.trans HA.out).fresh hk2 HQ.out.1
          rw [← HSN.out.1] at htw2
          clear hk2 hb2
          go_wp2
          go_roundw
          case rel => exact ⟨k + 1, by omega, by go_num, htw2, hf1, hke2⟩
          case measure => simp [intOf]; omega
      · have hmx : max x y = x := by omega
        rw [hmx] at hsn
        have HSN : Hid ((vrise a b).take (k + 1) = (vrise a b).take k ++ [x] ∧ InR .u64 x) := ⟨hsn, hxr⟩
        have hA : Kept No wr (wr.alloc (.cells #[.int .u64 x] 26)) := (Kept.refl _ _).alloc _
        have HA : Hid (Kept No wr (wr.alloc (.cells #[.int .u64 x] 26))) := hA
        clear hsn hyr hxr hmx hA
        go_wp2_with (first | (go_at_call 27; ((with_reducible refine (HAT.out _ (Kept.refl _ _)).mono ?_); rintro e w2 ⟨rfl, rfl⟩; rw [← HY.out])) | (at_builtin; go_must (refine wpList_append_tw (d := kI .u64) (G := No) (F := fun k' => k' = wr.heap.size) rfl (.tmp 26) (.tmp 28) 27 rfl 26 (.int .u64 0) 8 Try.underlying27 info_u64 rfl _ _ 1 _ [x] [.int .u64 x] rfl (HQ.out.2.2.1.new HA.out) rfl (src_new rfl) (reps_ints (by simpa using HSN.out.2)) rfl (fun _ h => h.elim) ?_ ?_ ?_)))
        · have := HQ.out.2.2.2; simp only [maxLen]; omega
        · have := HQ.out.2.2.2; omega
        · intro v' w' htw2 hk2 hb2
          have hf1 := HQ.out.1.next (v' := v') (w := wr.alloc (.cells #[.int .u64 x] 26)) (Nat.le_trans HQ.out.2.1.size HA.out.size) (by simpa using hb2)
          have hke2 := (HQ.out.2.1.trans HA.out).fresh hk2 HQ.out.1
          rw [← HSN.out.1] at htw2
          clear hk2 hb2
          go_wp2
          go_roundw
          case rel => exact ⟨k + 1, by omega, by go_num, htw2, hf1, hke2⟩
          case measure => simp [intOf]; omega
    · go_wp2
      go_ret
      have : k = n := by omega
      subst this
      rw [List.take_of_length_le (by rw [HV.out.1]; exact Nat.le_refl _)] at htw
      exact ⟨_, rfl, htw, hfr, hke⟩

theorem r3may_op (f s n : Int) (w : World) (h0 : 0 ≤ f) (h1 : f ≤ 255) : Calls Try.prog 55 #[.agg #[.int .u8 f, .int .u64 s], .int .i64 n] w fun e w' => e = .returned (.bool (mayI f s n)) ∧ Kept No w w' := by
  have hw : wrap64 f = f := by unfold wrap64; omega
  go_enter Try.func55, Try.ntmps55
  go_wp2
  all_goals
    go_ret
    refine ⟨ret_bool ?_, (Kept.refl _ _).alloc _⟩
    simp only [mayI, Bool.and_eq_true, decide_eq_true_eq, Bool.false_eq_true, false_iff]
    omega

/-- Is there a process? -/
theorem r18of_any (A : Option Addr) (n c : Nat) (p : Int) (w : World) : Calls Try.prog 31 #[.agg #[.slice A n c], .int .i64 p] w fun e w' => e = .returned (.bool (decide (0 ≤ p) && decide (p < n))) ∧ Kept No w w' := by
  by_cases hp : 0 ≤ p
  · by_cases hn : p < n
    · go_enter Try.func31, Try.ntmps31
      go_wp2
      go_ret
      exact ⟨ret_bool2 (by simp [hp, hn]), (Kept.refl _ _).alloc _⟩
    · go_enter Try.func31, Try.ntmps31
      go_wp2
      go_ret
      exact ⟨ret_bool2 (by simp [hp, hn]), (Kept.refl _ _).alloc _⟩
  · go_enter Try.func31, Try.ntmps31
    go_wp2
    go_ret
    exact ⟨ret_bool2 (by simp; omega), (Kept.refl _ _).alloc _⟩
end Go.Proofs.Ytfnecdkfhackkaa
