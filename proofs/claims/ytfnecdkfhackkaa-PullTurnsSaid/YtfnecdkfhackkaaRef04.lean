/- The reference of the layer vec: At, Covers, Same, Equal. -/
import Derived.Test.YtfnecdkfhackkaaVec
set_option linter.unusedVariables false
set_option linter.unusedSimpArgs false
namespace Go.Proofs.Ytfnecdkfhackkaa
open Go.RowKit

theorem ret_bool2 {a b : Bool} (h : a = b) : Ending.returned (.bool a) = .returned (.bool b) := by rw [h]
/-- The number of a process, wherever. -/
def vatI (xs : List Int) (i : Int) : Int := if i < 0 then 0 else vat xs i.toNat
theorem r4at_neg (v : Value) (i : Int) (w : World) (h : i < 0) : Calls Try.prog 27 #[v, .int .i64 i] w fun e w' => e = .returned (.int .u64 0) ∧ w = w' := by
  have h0 : ¬ 0 ≤ i := by omega
  go_enter Try.func27, Try.ntmps27
  go_wp2
  go_ret
  exact ⟨rfl, rfl⟩
theorem r4at_out (A : Option Addr) (n c : Nat) (i : Nat) (w : World) (h : n ≤ i) : Calls Try.prog 27 #[.slice A n c, .int .i64 i] w fun e w' => e = .returned (.int .u64 0) ∧ w = w' := by
  have h0 : ¬ (i : Int) < 0 := by omega
  have h1 : ¬ (i : Int) < (n : Int) := by omega
  go_enter Try.func27, Try.ntmps27
  go_wp2
  go_ret
  exact ⟨rfl, rfl⟩
theorem r4at_in (b off n c : Nat) (i : Nat) (x : Int) (w : World) (h : i < n) (hn : n ≤ 9223372036854775807) (hc : w.cell? ⟨b, off + i, none⟩ = some (.int .u64 x)) :
    Calls Try.prog 27 #[.slice (some ⟨b, off, none⟩) n c, .int .i64 i] w fun e w' => e = .returned (.int .u64 x) ∧ w = w' := by
  have h0 : ¬ (i : Int) < 0 := by omega
  have h1 : (i : Int) < (n : Int) := by omega
  go_enter Try.func27, Try.ntmps27
  go_wp2
  go_ret
  exact ⟨rfl, rfl⟩
theorem r4at_any (v : Value) (xs : List Int) (i : Nat) (w : World) (F : Nat → Prop) (h : Sl (kI .u64) w F v xs) : Calls Try.prog 27 #[v, .int .i64 i] w fun e w' => e = .returned (.int .u64 (vat xs i)) ∧ w = w' := by
  rcases h.ints with ⟨rfl, A, c, rfl⟩ | ⟨h0, h1, b, off, c, rfl, h2, h3, hF, hb, hc⟩
  · exact (r4at_out A 0 c i w (by omega)).mono fun e w' h => ⟨by rw [h.1]; simp [vat], h.2⟩
  · rcases Nat.lt_or_ge i xs.length with hi | hi
    · have hx := (hc i _ (List.getElem?_eq_getElem hi)).1
      exact (r4at_in b off _ c i _ w hi h1 hx).mono fun e w' h => ⟨by rw [h.1]; simp [vat, hi], h.2⟩
    · exact (r4at_out _ _ c i w hi).mono fun e w' h => ⟨by rw [h.1]; simp [vat, List.getElem?_eq_none hi], h.2⟩
theorem r4at_all (v : Value) (xs : List Int) (i : Int) (w : World) (F : Nat → Prop) (h : Sl (kI .u64) w F v xs) : Calls Try.prog 27 #[v, .int .i64 i] w fun e w' => e = .returned (.int .u64 (vatI xs i)) ∧ w = w' := by
  by_cases hi : i < 0
  · exact (r4at_neg v i w hi).mono fun e w' h => ⟨by rw [h.1, vatI, if_pos hi], h.2⟩
  · obtain ⟨n, rfl⟩ : ∃ n : Nat, i = n := ⟨i.toNat, by omega⟩
    exact (r4at_any v xs n w F h).mono fun e w' h => ⟨by rw [h.1, vatI, if_neg (by omega)]; simp, h.2⟩

/-- Is a at least b? -/
def coversM (a b : List Int) : Bool := (List.range b.length).all fun i => decide (vat b i ≤ vat a i)
theorem coversM_refl (a : List Int) : coversM a a = true := by simp [coversM]
theorem covers_any (va vb : Value) (a b : List Int) (w : World) (F : Nat → Prop) (ha : Sl (kI .u64) w F va a) (hb : Sl (kI .u64) w F vb b) :
    Calls Try.prog 25 #[va, vb] w fun e w' => e = .returned (.bool (coversM a b)) ∧ Kept No w w' := by
  have hat := fun (i : Nat) (W : World) (hW : Kept No w W) => r4at_any va a i W F (ha.new hW)
  have HAT : Hid (∀ (i : Nat) (W : World), Kept No w W → Calls Try.prog 27 #[va, .int .i64 i] W fun e w' => e = .returned (.int .u64 (vat a i)) ∧ W = w') := hat
  obtain ⟨A, cA, rfl, _⟩ := ha.slice
  clear hat
  rcases hb.ints with ⟨rfl, B, c, rfl⟩ | ⟨h0, h1, bb, off, c, rfl, h2, h3, hF, hlt, hc⟩
  · clear ha hb
    go_enter Try.func25, Try.ntmps25
    go_wp2
    go_loopw [8] (fun i wr => i = .int .i64 0 ∧ w = wr) (fun _ _ => 0)
    case atStart => exact ⟨rfl, rfl⟩
    case round =>
      obtain ⟨rfl, rfl⟩ := hrel
      go_wp2
      go_ret
      exact ⟨rfl, Kept.refl _ _⟩
  · obtain ⟨n, hn⟩ : ∃ n, n = b.length := ⟨_, rfl⟩
    rw [← hn] at h0 h1 h2 ⊢
    have HN : Hid (n = b.length ∧ (∀ j x, b[j]? = some x → w.cell? ⟨bb, off + j, none⟩ = some (.int .u64 x) ∧ InR .u64 x)) := ⟨hn, hc⟩
    clear ha hb hc hn
    go_enter Try.func25, Try.ntmps25
    go_wp2
    go_loopw [8] (fun i wr => ∃ k : Nat, k ≤ n ∧ i = .int .i64 k ∧ Kept No w wr ∧ ∀ j, j < k → vat b j ≤ vat a j) (fun i _ => n - (intOf i).toNat)
    case atStart => exact ⟨0, Nat.zero_le _, rfl, Kept.refl _ _, fun j h => absurd h (Nat.not_lt_zero _)⟩
    case round =>
      obtain ⟨k, hk, rfl, hke, hall⟩ := hrel
      by_cases hlt : k < n
      · have hcc := hke.cell (HN.out.2 k (vat b k) (by unfold vat; rw [List.getD_eq_getElem?_getD, List.getElem?_eq_getElem (by rw [← HN.out.1]; exact hlt)]; rfl)).1 id
        have hbw : bb < wr.heap.size := World.block_lt_of_cell? wr _ hcc
        obtain ⟨x, hx⟩ : ∃ x, x = vat b k := ⟨_, rfl⟩
        rw [← hx] at hcc
        have HX : Hid (x = vat b k ∧ (∀ j, j < k → vat b j ≤ vat a j) ∧ Kept No w wr) := ⟨hx, hall, hke⟩
        obtain ⟨y, hy⟩ : ∃ y, y = vat a k := ⟨_, rfl⟩
        have HY : Hid (y = vat a k) := hy
        clear hx hall hke hy
        go_wp2
        refine wp_region_plan No (.pur 0 (.pur 1 (.pur 3 (.pur 4 (.pur 5 (.rd 6 (.grow 2 (.pur 7 .fin)))))))) [] mixed (by kernel_rfl) ?_
        repeat ((first | refine pl_pur (by simp only [List.getD_cons_succ, List.getD_cons_zero]; rfl) _ (by rfl) (fun W => by go_simp; with_reducible rfl) ?_ | refine pl_rd (by simp only [List.getD_cons_succ, List.getD_cons_zero]; rfl) _ (by rfl) (fun W hW => by have hc := kcell hW; clear hW; go_simp; with_reducible rfl) ?_); simp only [Act.put, List.setIfInBounds_toArray, List.set_cons_zero, List.set_cons_succ])
        refine pl_rd (by simp only [List.getD_cons_succ, List.getD_cons_zero]; rfl) _ (by rfl) (fun W hW => by have hc := hW.cell (show wr.drew.cell? ⟨bb, off + k, none⟩ = some (.int .u64 x) from hcc) id; clear hW; go_simp; with_reducible rfl) ?_
        simp only [Act.put, List.setIfInBounds_toArray, List.set_cons_zero, List.set_cons_succ]
        refine pl_grow (by simp only [List.getD_cons_succ, List.getD_cons_zero]; rfl) ?_
        go_wp2_with (go_at_call 27; ((with_reducible refine (HAT.out k _ (HX.out.2.2.drew)).mono ?_); rintro e w2 ⟨rfl, rfl⟩))
        rw [← HY.out]
        refine GPost.mk (Kept.refl _ _) ?_
        by_cases hxy : y < x
        · repeat ((first | refine pl_pur (by simp only [List.getD_cons_succ, List.getD_cons_zero]; rfl) _ (by rfl) (fun W => by go_simp; with_reducible rfl) ?_ | refine pl_rd (by simp only [List.getD_cons_succ, List.getD_cons_zero]; rfl) _ (by rfl) (fun W hW => by have hc := kcell hW; clear hW; go_simp; with_reducible rfl) ?_); simp only [Act.put, List.setIfInBounds_toArray, List.set_cons_zero, List.set_cons_succ])
          refine pl_fin ?_
          go_wp2
          go_ret
          refine ⟨ret_bool2 ?_, HX.out.2.2.drew⟩
          symm
          rw [coversM, List.all_eq_false]
          exact ⟨k, by rw [List.mem_range, ← HN.out.1]; exact hlt, by rw [← HX.out.1, ← HY.out]; simp; omega⟩
        · repeat ((first | refine pl_pur (by simp only [List.getD_cons_succ, List.getD_cons_zero]; rfl) _ (by rfl) (fun W => by go_simp; with_reducible rfl) ?_ | refine pl_rd (by simp only [List.getD_cons_succ, List.getD_cons_zero]; rfl) _ (by rfl) (fun W hW => by have hc := kcell hW; clear hW; go_simp; with_reducible rfl) ?_); simp only [Act.put, List.setIfInBounds_toArray, List.set_cons_zero, List.set_cons_succ])
          refine pl_fin ?_
          go_wp2
          go_roundw
          case rel => exact ⟨k + 1, by omega, by go_num, HX.out.2.2.drew, fun j hj => by
            rcases Nat.lt_or_ge j k with h | h
            · exact HX.out.2.1 j h
            · have : j = k := by omega
              subst this
              rw [← HX.out.1, ← HY.out]; omega⟩
          case measure => simp [intOf]; omega
      · go_wp2
        go_ret
        refine ⟨ret_bool2 ?_, hke⟩
        symm
        rw [coversM, List.all_eq_true]
        intro j hj
        rw [List.mem_range, ← HN.out.1] at hj
        simpa using hall j (by omega)

def same04 (a b : List Int) : Bool := coversM a b && coversM b a
theorem same04_any (va vb : Value) (a b : List Int) (w : World) (F : Nat → Prop) (ha : Sl (kI .u64) w F va a) (hb : Sl (kI .u64) w F vb b) :
    Calls Try.prog 24 #[va, vb] w fun e w' => e = .returned (.bool (same04 a b)) ∧ Kept No w w' := by
  have h1 := covers_any va vb a b w F ha hb
  have h2 := fun W (hW : Kept No w W) => covers_any vb va b a W F (hb.new hW) (ha.new hW)
  rw [same04]
  have H2 : Hid (∀ W, Kept No w W → Calls Try.prog 25 #[vb, va] W fun e w' => e = .returned (.bool (coversM b a)) ∧ Kept No W w') := h2
  clear h2 ha hb
  cases hab : coversM a b with
  | false =>
    rw [hab] at h1
    clear hab
    go_enter Try.func24, Try.ntmps24
    go_wp2_with (go_at_call 25; (with_reducible refine h1.mono ?_); rintro e w1 ⟨rfl, hk1⟩)
    go_ret
    exact ⟨rfl, hk1⟩
  | true =>
    rw [hab] at h1
    clear hab
    go_enter Try.func24, Try.ntmps24
    go_wp2_with (go_at_call 25; first | ((with_reducible refine h1.mono ?_); rintro e w1 ⟨rfl, hk1⟩; have HK1 : Hid (Kept No w w1) := hk1; clear hk1 h1) | ((with_reducible refine (H2.out _ HK1.out).mono ?_); rintro e w2 ⟨rfl, hk2⟩))
    go_ret
    exact ⟨rfl, HK1.out.trans hk2⟩

/-- The same numbers, and as many? -/
def equal04 (a b : List Int) : Bool := decide (a.length = b.length) && same04 a b
theorem equal04_refl (a : List Int) : equal04 a a = true := by simp [equal04, same04, coversM_refl]
theorem equal04_any (va vb : Value) (a b : List Int) (w : World) (F : Nat → Prop) (ha : Sl (kI .u64) w F va a) (hb : Sl (kI .u64) w F vb b) :
    Calls Try.prog 17 #[va, vb] w fun e w' => e = .returned (.bool (equal04 a b)) ∧ Kept No w w' := by
  have h1 := same04_any va vb a b w F ha hb
  rw [equal04]
  obtain ⟨A, cA, rfl, hA⟩ := ha.slice
  obtain ⟨B, cB, rfl, hB⟩ := hb.slice
  clear ha hb
  obtain ⟨n, hn⟩ : ∃ n, n = a.length := ⟨_, rfl⟩
  obtain ⟨m, hm⟩ : ∃ m, m = b.length := ⟨_, rfl⟩
  rw [← hn] at h1 ⊢
  rw [← hm] at h1 ⊢
  clear hA hB
  obtain ⟨S, hS⟩ : ∃ S, S = same04 a b := ⟨_, rfl⟩
  rw [← hS] at h1 ⊢
  clear hn hm hS
  by_cases hnm : n = m
  · subst hnm
    go_enter Try.func17, Try.ntmps17
    go_wp2_with (go_at_call 24; go_loud ((with_reducible refine h1.mono ?_); rintro e w1 ⟨rfl, hk1⟩))
    go_ret
    exact ⟨ret_bool2 (by simp), hk1⟩
  · have hnm2 : ¬ (n : Int) = (m : Int) := by omega
    rw [show decide (n = m) = false by simpa using hnm]
    go_enter Try.func17, Try.ntmps17
    go_wp2
    go_ret
    exact ⟨ret_bool2 (by simp), Kept.refl _ _⟩
end Go.Proofs.Ytfnecdkfhackkaa
