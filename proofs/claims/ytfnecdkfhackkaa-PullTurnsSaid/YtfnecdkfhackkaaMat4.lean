/- The package matrix, fourth part: Least, Most, May, Holders; nil ones. -/
import Derived.Test.YtfnecdkfhackkaaMat3
set_option linter.unusedVariables false
set_option linter.unusedSimpArgs false
namespace Go.Proofs.Ytfnecdkfhackkaa
open Go.RowKit

theorem stable_nil (w : World) : Calls Try.prog 18 #[.pointer none] w fun e w' => e = .returned (.slice none 0 0) ∧ w = w' := by
  go_enter Try.func18, Try.ntmps18
  go_wp2
  go_ret
  exact ⟨rfl, rfl⟩
theorem most_nil (w : World) : Calls Try.prog 20 #[.pointer none] w fun e w' => e = .returned (.slice none 0 0) ∧ w = w' := by
  go_enter Try.func20, Try.ntmps20
  go_wp2
  go_ret
  exact ⟨rfl, rfl⟩
theorem least_nil (w : World) : Calls Try.prog 19 #[.pointer none] w fun e w' => e = .returned (.int .u64 0) ∧ w = w' := by
  have hL := left_nil w
  go_enter Try.func19, Try.ntmps19
  go_wp2_with (go_at_call 47; ((with_reducible refine hL.mono ?_); rintro e w' ⟨rfl, rfl⟩))
  go_ret
  exact ⟨rfl, rfl⟩
theorem holders_nil (f s : Int) (w : World) : Calls Try.prog 26 #[.pointer none, .agg #[.int .u8 f, .int .u64 s]] w fun e w' => e = .returned (.slice none 0 0) ∧ Kept No w w' := by
  go_enter Try.func26, Try.ntmps26
  go_wp2
  refine wp_region_plan No (.pur 0 (.pur 1 (.pur 2 (.pur 4 (.pur 5 (.pur 6 (.rd 3 (.rd 7 (.rd 8 (.grow 9 (.pur 10 (.pur 11 .fin)))))))))))) [] mixed (by kernel_rfl) ?_
  repeat ((first | refine pl_pur (by simp only [List.getD_cons_succ, List.getD_cons_zero]; rfl) _ (by rfl) (fun W => by go_simp; with_reducible rfl) ?_ | refine pl_rd (by simp only [List.getD_cons_succ, List.getD_cons_zero]; rfl) _ (by rfl) (fun W hW => by have hc := kcell hW; clear hW; go_simp; with_reducible rfl) ?_ | refine pl_skip (by simp only [List.getD_cons_succ, List.getD_cons_zero]; rfl) (by rfl) ?_ | refine pl_skip_rd (by simp only [List.getD_cons_succ, List.getD_cons_zero]; rfl) (by rfl) ?_ | refine pl_skip_grow (by simp only [List.getD_cons_succ, List.getD_cons_zero]; rfl) (by rfl) ?_ | refine pl_skip_act (by simp only [List.getD_cons_succ, List.getD_cons_zero]; rfl) (by rfl) ?_); simp only [Act.put, List.setIfInBounds_toArray, List.set_cons_zero, List.set_cons_succ])
  refine pl_fin ?_
  go_wp2
  go_ret
  exact ⟨rfl, ((Kept.refl _ _).alloc _).drew⟩

def mayI (f s n : Int) : Bool := decide (f < min n 64) && decide (1 ≤ s) && decide (s ≤ 4611686018427387904)
theorem ret_bool {a b : Bool} (h : a = true ↔ b = true) : Ending.returned (.bool a) = .returned (.bool b) := by rw [Bool.eq_iff_iff.2 h]
theorem may_op (f s n : Int) (w : World) (h0 : 0 ≤ f) (h1 : f ≤ 255) : Calls Try.prog 51 #[.agg #[.int .u8 f, .int .u64 s], .int .i64 n] w fun e w' => e = .returned (.bool (mayI f s n)) ∧ Kept No w w' := by
  go_enter Try.func51, Try.ntmps51
  go_wp2
  all_goals
    go_ret
    refine ⟨ret_bool ?_, (Kept.refl _ _).alloc _⟩
    have : wrap64 f = f := by unfold wrap64; omega
    simp only [mayI, Bool.and_eq_true, decide_eq_true_eq, Bool.false_eq_true, false_iff]
    omega

/-- The lowest inst. -/
def lowI (x : Int) (l : List Row) : Int := l.foldl (fun n r => min n r.inst) x
def leastM (rows : List Row) : Int := match leftL rows with
  | [] => 0
  | r :: l => lowI r.inst (r :: l)
theorem lowI_snoc (x : Int) (l : List Row) (k : Nat) (r : Row) (h : l[k]? = some r) : lowI x (l.take (k + 1)) = min (lowI x (l.take k)) r.inst := by rw [take_snoc _ _ _ h, lowI, List.foldl_append]; rfl
theorem least_any {b rb n : Nat} {rows : List Row} {G : Nat → Prop} (w : World) (h : MatAt w b rb n rows G) :
    Calls Try.prog 19 #[.pointer (some ⟨b, 0, none⟩)] w fun e w' => e = .returned (.int .u64 (leastM rows)) ∧ Kept No w w' := by
  have hL := left_any w h
  have hle := h.le
  have hb := h.lt.1
  have HH : Hid (MatAt w b rb n rows G) := h
  clear h
  obtain ⟨L, hLL⟩ : ∃ L, L = leftL rows := ⟨_, rfl⟩
  rw [leastM, ← hLL]
  rw [← hLL] at hL
  have hll := left_len (rows := rows)
  rw [← hLL, HH.out.len] at hll
  cases L with
  | nil =>
    clear hLL hll
    go_enter Try.func19, Try.ntmps19
    go_wp2_with (go_at_call 47; ((with_reducible refine hL.mono ?_); rintro e w1 ⟨v1, rfl, ht1, hf1, hk1⟩; obtain ⟨A, c, rfl, hl1, hl2⟩ := ht1.slice; simp only [List.length_nil]; clear ht1 hf1))
    go_ret
    exact ⟨rfl, hk1⟩
  | cons r0 L =>
    obtain ⟨m, hm⟩ : ∃ m, m = L.length := ⟨_, rfl⟩
    have hmn : m + 1 ≤ n := by rw [hm]; exact hll
    have HL : Hid ((r0 :: L).length = m + 1) := by show _ = _; rw [hm]; rfl
    clear hm hLL hll
    go_enter Try.func19, Try.ntmps19
    go_wp2_with (go_at_call 47; ((with_reducible refine hL.mono ?_); rintro e w1 ⟨v1, rfl, ht1, hf1, hk1⟩; obtain ⟨A, c, rfl, hl1, hl2⟩ := ht1.slice; obtain ⟨g, off, cs, rfl, ⟨vd, vh, rfl, _⟩, hcell⟩ := ht1.get (j := 0) rfl; have d0 := hcell 0 _ rfl; have H1 : Hid (TW kRow 80 w1 (fun k => k = rb ∨ G k) (.slice (some ⟨g, off, none⟩) (r0 :: L).length c) (r0 :: L) ∧ Kept No w w1) := ⟨ht1, hk1⟩; rw [HL.out] at hl1 ⊢; simp only [Nat.zero_mul, Nat.add_zero] at d0; clear ht1 hf1 hk1 hcell))
    go_loopw [4, 18] (fun t i wr => ∃ k : Nat, k ≤ m + 1 ∧ i = .int .i64 k ∧ t = .int .u64 (lowI r0.inst ((r0 :: L).take k)) ∧ Kept No w1 wr) (fun _ i _ => m + 1 - (intOf i).toNat)
    case atStart => exact ⟨0, Nat.zero_le _, rfl, rfl, Kept.refl _ _⟩
    case round =>
      obtain ⟨k, hk, rfl, rfl, hke⟩ := hrel
      by_cases hlt : k < m + 1
      · obtain ⟨r, hr⟩ : ∃ r, (r0 :: L)[k]? = some r := ⟨_, List.getElem?_eq_getElem (by rw [HL.out]; exact hlt)⟩
        obtain ⟨bl, off, cs, hA, ⟨vd, vh, rfl, _, hsd, hsh⟩, hcell⟩ := H1.out.1.get hr
        simp only [Option.some.injEq, Addr.mk.injEq, and_true] at hA
        obtain ⟨rfl, rfl⟩ := hA
        have d0 := hke.cell (hcell 0 _ rfl) id
        have d1 := hke.cell (hcell 1 _ rfl) id
        have d2 := hke.cell (hcell 2 _ rfl) id
        have d3 := hke.cell (hcell 3 _ rfl) id
        have e4 : kRow.sz = 4 := rfl
        rw [e4] at d0 d1 d2 d3
        simp only [Nat.add_zero] at d0
        clear e4
        obtain ⟨x0, y0, z0, rfl, _⟩ : ∃ A n c, vd = .slice A n c ∧ True := by obtain ⟨A, c, h, _⟩ := hsd.slice; exact ⟨A, _, c, h, trivial⟩
        obtain ⟨x1, y1, z1, rfl, _⟩ : ∃ A n c, vh = .slice A n c ∧ True := by obtain ⟨A, c, h, _⟩ := hsh.slice; exact ⟨A, _, c, h, trivial⟩
        have HQ : Hid (lowI r0.inst ((r0 :: L).take (k + 1)) = min (lowI r0.inst ((r0 :: L).take k)) r.inst ∧ Kept No w1 wr) := ⟨lowI_snoc _ _ _ _ hr, hke⟩
        obtain ⟨T, hT⟩ : ∃ T, T = lowI r0.inst ((r0 :: L).take k) := ⟨_, rfl⟩
        rw [← hT] at HQ ⊢
        clear hcell hsd hsh hke hr hT
        go_wp2
        all_goals
          go_roundw
          case rel => exact ⟨k + 1, by omega, by go_num, by rw [HQ.out.1]; congr 1; omega, HQ.out.2.alloc _⟩
          case measure => simp [intOf]; omega
      · go_wp2
        go_ret
        have : k = m + 1 := by omega
        subst this
        exact ⟨ret_int (by rw [List.take_of_length_le (by rw [HL.out]; exact Nat.le_refl _)]), H1.out.2.trans hke⟩

end Go.Proofs.Ytfnecdkfhackkaa
