/- The package ident, first part: kinds of ids and runs; what compares ids; what says whether an id, or a run, may be. -/
import Derived.Test.YtjokkmhndahnkaaI0
import Derived.Test.YtjokkmhndahnkaaVec
import Derived.Test.YtjokkmhndahnkaaWhole
set_option linter.unusedVariables false
set_option linter.unusedSimpArgs false
namespace Go.Proofs.Ytjokkmhndahnkaa
open Go.RowKit

def okID (p : PID) : Prop := InR .u8 p.1 ∧ InR .u64 p.2
def okRun (p : PRun) : Prop := InR .u8 p.1 ∧ InR .u64 p.2.1 ∧ InR .u64 p.2.2
def kID : Kd PID := flat 2 (fun p => [.int .u8 p.1, .int .u64 p.2]) okID (fun _ => rfl) (fun x u hu => by simp at hu; rcases hu with rfl | rfl <;> rfl)
def kRun : Kd PRun := flat 3 (fun p => [.int .u8 p.1, .int .u64 p.2.1, .int .u64 p.2.2]) okRun (fun _ => rfl) (fun x u hu => by simp at hu; rcases hu with rfl | rfl | rfl <;> rfl)
theorem okID_iff {p : PID} : okID p ↔ (0 ≤ p.1 ∧ p.1 ≤ 255 ∧ 0 ≤ p.2 ∧ p.2 ≤ 18446744073709551615) := by simp [okID, inr_u8, inr_u64, and_assoc]
theorem okRun_iff {p : PRun} : okRun p ↔ (0 ≤ p.1 ∧ p.1 ≤ 255 ∧ 0 ≤ p.2.1 ∧ p.2.1 ≤ 18446744073709551615 ∧ 0 ≤ p.2.2 ∧ p.2.2 ≤ 18446744073709551615) := by simp [okRun, inr_u8, inr_u64, and_assoc]
theorem ret_bool {a b : Bool} (h : a = true ↔ b = true) : Ending.returned (.bool a) = .returned (.bool b) := by rw [Bool.eq_iff_iff.2 h]

theorem agg33 {a b : Value} : Agg Try.prog 33 [a, b].length := Agg.mk' Try.underlying33 rfl (by kernel_rfl)
theorem agg40 {a b c : Value} : Agg Try.prog 40 [a, b, c].length := Agg.mk' Try.underlying40 rfl (by kernel_rfl)
theorem res_cell {P : Program} {fn : Func} {p : Tmp} {ty : TypeId} (h : fn.results = #[.cell p ty]) (tmps : Array Value) (w : World) (b off : Nat) (hp : tmps.getD p undef = .pointer (some ⟨b, off, none⟩)) (cs : List Value) (hA : Agg P ty cs.length)
    (hc : ∀ i u, cs[i]? = some u → w.cell? ⟨b, off + i, none⟩ = some u) : (results fn tmps).run P w = .ok (.agg cs.toArray) w := by
  simp only [results, h]
  have hp' : tmps[p]?.getD undef = .pointer (some ⟨b, off, none⟩) := by rw [← hp]; simp
  simp [Sem.run_bind, hp', asAddr, run_load_whole hA hc]
theorem two_cells {w : World} {b : Nat} {x y : Value} (h0 : w.cell? ⟨b, 0, none⟩ = some x) (h1 : w.cell? ⟨b, 1, none⟩ = some y) : ∀ i u, [x, y][i]? = some u → w.cell? ⟨b, 0 + i, none⟩ = some u := by
  intro i u hu
  match i with
  | 0 => have e : x = u := by simpa using hu
         subst e; exact h0
  | 1 => have e : y = u := by simpa using hu
         subst e; exact h1
  | i + 2 => simp at hu
theorem three_cells {w : World} {b : Nat} {x y z : Value} (h0 : w.cell? ⟨b, 0, none⟩ = some x) (h1 : w.cell? ⟨b, 1, none⟩ = some y) (h2 : w.cell? ⟨b, 2, none⟩ = some z) : ∀ i u, [x, y, z][i]? = some u → w.cell? ⟨b, 0 + i, none⟩ = some u := by
  intro i u hu
  match i with
  | 0 => have e : x = u := by simpa using hu
         subst e; exact h0
  | 1 => have e : y = u := by simpa using hu
         subst e; exact h1
  | 2 => have e : z = u := by simpa using hu
         subst e; exact h2
  | i + 3 => simp at hu
theorem isNaN8 (x : Int) (w : World) : Calls Try.prog 55 #[.int .u8 x] w fun e w' => e = .returned (.bool false) ∧ w = w' := by
  go_enter Try.func55, Try.ntmps55
  go_wp2
  go_ret
  exact ⟨rfl, rfl⟩
theorem isNaN64 (x : Int) (w : World) : Calls Try.prog 56 #[.int .u64 x] w fun e w' => e = .returned (.bool false) ∧ w = w' := by
  go_enter Try.func56, Try.ntmps56
  go_wp2
  go_ret
  exact ⟨rfl, rfl⟩
def cmpI (x y : Int) : Int := if x < y then -1 else if y < x then 1 else 0
theorem compare8 (x y : Int) (w : World) : Calls Try.prog 42 #[.int .u8 x, .int .u8 y] w fun e w' => e = .returned (.int .i64 (cmpI x y)) ∧ w = w' := by
  have hn := fun x => isNaN8 x w
  have hc : cmpI x y = if x < y then -1 else if y < x then 1 else 0 := rfl
  go_enter Try.func42, Try.ntmps42
  go_wp2_with (go_at_call 55; ((with_reducible refine (hn _).mono ?_); rintro e w1 ⟨rfl, rfl⟩))
  all_goals
    go_ret
    refine ⟨?_, rfl⟩
    simp [cmpI, *]
    try omega
theorem compare64 (x y : Int) (w : World) : Calls Try.prog 43 #[.int .u64 x, .int .u64 y] w fun e w' => e = .returned (.int .i64 (cmpI x y)) ∧ w = w' := by
  have hn := fun x => isNaN64 x w
  go_enter Try.func43, Try.ntmps43
  go_wp2_with (go_at_call 56; ((with_reducible refine (hn _).mono ?_); rintro e w1 ⟨rfl, rfl⟩))
  all_goals
    go_ret
    refine ⟨?_, rfl⟩
    simp [cmpI, *]
    try omega
theorem or_two (b : Nat) (x y : Int) (w : World) (h0 : w.cell? ⟨b, 0, none⟩ = some (.int .i64 x)) (h1 : w.cell? ⟨b, 1, none⟩ = some (.int .i64 y)) :
    Calls Try.prog 41 #[.slice (some ⟨b, 0, none⟩) 2 2] w fun e w' => e = .returned (.int .i64 (if x = 0 then y else x)) ∧ w = w' := by
  have HC : Hid (w.cell? ⟨b, 0, none⟩ = some (.int .i64 x) ∧ w.cell? ⟨b, 1, none⟩ = some (.int .i64 y)) := ⟨h0, h1⟩
  clear h0 h1
  obtain ⟨r, hr⟩ : ∃ r, r = (if x = 0 then y else x) := ⟨_, rfl⟩
  rw [← hr]
  have HR : Hid (r = (if x = 0 then y else x)) := hr
  clear hr
  go_enter Try.func41, Try.ntmps41
  go_wp2
  go_loopw [8] (fun i wr => ∃ k : Nat, k ≤ 2 ∧ i = .int .i64 k ∧ w = wr ∧ (1 ≤ k → x = 0) ∧ (2 ≤ k → y = 0)) (fun i _ => 2 - (intOf i).toNat)
  case atStart => exact ⟨0, by omega, rfl, rfl, by omega, by omega⟩
  case round =>
    obtain ⟨k, hk, rfl, rfl, hx, hy⟩ := hrel
    have HX : Hid ((1 ≤ k → x = 0) ∧ (2 ≤ k → y = 0)) := ⟨hx, hy⟩
    clear hx hy
    rcases (show k = 0 ∨ k = 1 ∨ k = 2 by omega) with e | e | e
    · subst e
      have c0 := HC.out.1
      go_wp2
      · go_ret
        have := HR.out
        refine ⟨?_, rfl⟩
        simp_all
      · go_roundw
        case rel => exact ⟨1, by omega, by go_num, by first | rfl | trivial, by intro _; simp_all, by omega⟩
        case measure => simp [intOf]
    · subst e
      have c0 := HC.out.2
      go_wp2
      · go_ret
        have := HR.out
        have := HX.out.1 (by omega)
        refine ⟨?_, rfl⟩
        simp_all
      · go_roundw
        case rel => exact ⟨2, by omega, by go_num, by first | rfl | trivial, by intro _; exact HX.out.1 (by omega), by intro _; simp_all⟩
        case measure => simp [intOf]
    · subst e
      go_wp2
      go_ret
      have := HR.out
      have := HX.out.1 (by omega)
      have := HX.out.2 (by omega)
      refine ⟨?_, rfl⟩
      simp_all
def ordI (a b : PID) : Int := if cmpI a.1 b.1 = 0 then cmpI a.2 b.2 else cmpI a.1 b.1
theorem ordI_less (a b : PID) : decide (ordI a b < 0) = lessI a b := by
  unfold ordI cmpI lessI
  by_cases h1 : a.1 < b.1 <;> by_cases h2 : b.1 < a.1 <;> by_cases h3 : a.2 < b.2 <;> by_cases h4 : b.2 < a.2 <;> simp [h1, h2, h3, h4] <;> omega

set_option maxRecDepth 20000 in
theorem order_op (a b c d : Int) (w : World) : Calls Try.prog 31 #[.agg #[.int .u8 a, .int .u64 b], .agg #[.int .u8 c, .int .u64 d]] w fun e w' => e = .returned (.int .i64 (ordI (a, b) (c, d))) ∧ Kept No w w' := by
  have k0 : Kept No w ((w.alloc (.cells #[.int .u8 a, .int .u64 b] 33)).alloc (.cells #[.int .u8 c, .int .u64 d] 33)).drew := (((Kept.refl _ _).alloc _).alloc _).drew
  obtain ⟨W, hW⟩ : ∃ W, W = ((w.alloc (.cells #[.int .u8 a, .int .u64 b] 33)).alloc (.cells #[.int .u8 c, .int .u64 d] 33)).drew := ⟨_, rfl⟩
  have c0 : W.cell? ⟨w.heap.size, 0, none⟩ = some (.int .u8 a) := by rw [hW, World.cell?_drew]; simp
  have c1 : W.cell? ⟨w.heap.size, 1, none⟩ = some (.int .u64 b) := by rw [hW, World.cell?_drew]; simp
  have c2 : W.cell? ⟨w.heap.size + 1, 0, none⟩ = some (.int .u8 c) := by rw [hW, World.cell?_drew]; simp
  have c3 : W.cell? ⟨w.heap.size + 1, 1, none⟩ = some (.int .u64 d) := by rw [hW, World.cell?_drew]; simp
  have h1 := compare8 a c W
  have h2 := compare64 b d W
  rw [← hW] at k0
  obtain ⟨x, hx⟩ : ∃ x, x = cmpI a c := ⟨_, rfl⟩
  obtain ⟨y, hy⟩ : ∃ y, y = cmpI b d := ⟨_, rfl⟩
  rw [← hx] at h1
  rw [← hy] at h2
  have h3 := or_two W.heap.size x y (W.alloc (.cells #[.int .i64 x, .int .i64 y] 3)) (by simp) (by simp)
  obtain ⟨z, hz⟩ : ∃ z, z = (if x = 0 then y else x) := ⟨_, rfl⟩
  rw [← hz] at h3
  have HR : Hid (z = ordI (a, b) (c, d) ∧ Kept No w W) := ⟨by rw [hz, hx, hy, ordI], k0⟩
  clear hx hy hz k0
  have HW : Hid (W = ((w.alloc (.cells #[.int .u8 a, .int .u64 b] 33)).alloc (.cells #[.int .u8 c, .int .u64 d] 33)).drew) := hW
  clear hW
  go_enter Try.func31, Try.ntmps31
  go_wp2
  refine wp_region_plan No (.pur 0 (.pur 2 (.pur 5 (.pur 7 (.rd 1 (.rd 3 (.rd 6 (.rd 8 (.grow 4 (.grow 9 (.grow 10 (.grow 11 (.pur 12 .fin))))))))))))) [] mixed (by kernel_rfl) ?_
  rw [← HW.out]
  repeat ((first | refine pl_pur (by simp only [List.getD_cons_succ, List.getD_cons_zero]; rfl) _ (by rfl) (fun W => by go_simp; with_reducible rfl) ?_ | refine pl_rd (by simp only [List.getD_cons_succ, List.getD_cons_zero]; rfl) _ (by rfl) (fun W hW => by have hc := hW.cell (c0) id; clear hW; go_simp; with_reducible rfl) ?_ | refine pl_rd (by simp only [List.getD_cons_succ, List.getD_cons_zero]; rfl) _ (by rfl) (fun W hW => by have hc := hW.cell (c1) id; clear hW; go_simp; with_reducible rfl) ?_ | refine pl_rd (by simp only [List.getD_cons_succ, List.getD_cons_zero]; rfl) _ (by rfl) (fun W hW => by have hc := hW.cell (c2) id; clear hW; go_simp; with_reducible rfl) ?_ | refine pl_rd (by simp only [List.getD_cons_succ, List.getD_cons_zero]; rfl) _ (by rfl) (fun W hW => by have hc := hW.cell (c3) id; clear hW; go_simp; with_reducible rfl) ?_); simp only [Act.put, List.setIfInBounds_toArray, List.set_cons_zero, List.set_cons_succ])
  refine pl_grow (by simp only [List.getD_cons_succ, List.getD_cons_zero]; rfl) ?_
  go_wp2_with (go_at_call 42; ((with_reducible refine h1.mono ?_); rintro e w1 ⟨rfl, rfl⟩))
  refine GPost.mk (Kept.refl _ _) ?_
  refine pl_grow (by simp only [List.getD_cons_succ, List.getD_cons_zero]; rfl) ?_
  go_wp2_with (go_at_call 43; ((with_reducible refine h2.mono ?_); rintro e w1 ⟨rfl, rfl⟩))
  refine GPost.mk (Kept.refl _ _) ?_
  refine pl_grow (by simp only [List.getD_cons_succ, List.getD_cons_zero]; rfl) ?_
  go_wp2
  refine GPost.mk ((Kept.refl _ _).alloc _) ?_
  refine pl_grow (by simp only [List.getD_cons_succ, List.getD_cons_zero]; rfl) ?_
  go_wp2_with (go_at_call 41; ((with_reducible refine h3.mono ?_); rintro e w1 ⟨rfl, rfl⟩))
  refine GPost.mk (Kept.refl _ _) ?_
  repeat ((first | refine pl_pur (by simp only [List.getD_cons_succ, List.getD_cons_zero]; rfl) _ (by rfl) (fun W => by go_simp; with_reducible rfl) ?_ | refine pl_rd (by simp only [List.getD_cons_succ, List.getD_cons_zero]; rfl) _ (by rfl) (fun W hW => by have hc := kcell hW; clear hW; go_simp; with_reducible rfl) ?_); simp only [Act.put, List.setIfInBounds_toArray, List.set_cons_zero, List.set_cons_succ])
  refine pl_fin ?_
  go_wp2
  go_ret
  exact ⟨ret_int HR.out.1, HR.out.2.alloc _⟩
theorem less_op (a b c d : Int) (w : World) : Calls Try.prog 14 #[.agg #[.int .u8 a, .int .u64 b], .agg #[.int .u8 c, .int .u64 d]] w fun e w' => e = .returned (.bool (lessI (a, b) (c, d))) ∧ Kept No w w' := by
  have ho := fun W => order_op a b c d W
  obtain ⟨x, hx⟩ : ∃ x, x = ordI (a, b) (c, d) := ⟨_, rfl⟩
  rw [← hx] at ho
  rw [← ordI_less, ← hx]
  clear hx
  go_enter Try.func14, Try.ntmps14
  go_wp2_with (go_at_call 31; ((with_reducible refine (ho _).mono ?_); rintro e w1 ⟨rfl, hk⟩))
  go_ret
  exact ⟨rfl, (((Kept.refl No w).alloc _).alloc _).trans hk⟩
theorem less_ref (a b c d : Int) (w : World) : Calls Try.prog 19 #[.agg #[.int .u8 a, .int .u64 b], .agg #[.int .u8 c, .int .u64 d]] w fun e w' => e = .returned (.bool (lessI (a, b) (c, d))) ∧ Kept No w w' := by
  go_enter Try.func19, Try.ntmps19
  go_wp2
  all_goals
    go_ret
    refine ⟨ret_bool ?_, ((Kept.refl No w).alloc _).alloc _⟩
    rw [lessI_iff]
    simp only [decide_eq_true_eq]
    try simp only [beq_iff_eq, beq_eq_false_iff_ne, ne_eq] at *
    omega
theorem may_op (f s n : Int) (w : World) (h0 : 0 ≤ f) (h1 : f ≤ 255) : Calls Try.prog 17 #[.agg #[.int .u8 f, .int .u64 s], .int .i64 n] w fun e w' => e = .returned (.bool (mayP n (f, s))) ∧ Kept No w w' := by
  go_enter Try.func17, Try.ntmps17
  go_wp2
  all_goals
    go_ret
    refine ⟨ret_bool ?_, (Kept.refl _ _).alloc _⟩
    have : wrap64 f = f := by unfold wrap64; omega
    simp only [mayP, Bool.and_eq_true, decide_eq_true_eq, Bool.false_eq_true, false_iff]
    omega
theorem may_ref (f s n : Int) (w : World) (h0 : 0 ≤ f) (h1 : f ≤ 255) : Calls Try.prog 18 #[.agg #[.int .u8 f, .int .u64 s], .int .i64 n] w fun e w' => e = .returned (.bool (mayP n (f, s))) ∧ Kept No w w' := by
  go_enter Try.func18, Try.ntmps18
  go_wp2
  all_goals
    go_ret
    refine ⟨ret_bool ?_, (Kept.refl _ _).alloc _⟩
    have : wrap64 f = f := by unfold wrap64; omega
    simp only [mayP, Bool.and_eq_true, decide_eq_true_eq, Bool.false_eq_true, false_iff]
    omega
theorem run_op (f s c : Int) (w : World) (h : okRun (f, s, c)) : Calls Try.prog 20 #[.agg #[.int .u8 f, .int .u64 s, .int .u64 c]] w fun e w' => e = .returned (.bool (runI (f, s, c))) ∧ Kept No w w' := by
  have HR : Hid (okRun (f, s, c)) := h
  clear h
  go_enter Try.func20, Try.ntmps20
  go_wp2
  all_goals
    go_ret
    refine ⟨ret_bool ?_, (Kept.refl _ _).alloc _⟩
    have hr := okRun_iff.1 HR.out
    simp only [runI, decide_eq_true_eq, Bool.false_eq_true, false_iff, IntKind.wrap_u64] at hr ⊢
    omega
theorem run_ref (f s c : Int) (w : World) (h : okRun (f, s, c)) : Calls Try.prog 21 #[.agg #[.int .u8 f, .int .u64 s, .int .u64 c]] w fun e w' => e = .returned (.bool (runI (f, s, c))) ∧ Kept No w w' := by
  have HR : Hid (okRun (f, s, c)) := h
  clear h
  go_enter Try.func21, Try.ntmps21
  go_wp2
  all_goals
    go_ret
    refine ⟨ret_bool ?_, (Kept.refl _ _).alloc _⟩
    have hr := okRun_iff.1 HR.out
    simp only [runI, decide_eq_true_eq, Bool.false_eq_true, false_iff, IntKind.wrap_u64] at hr ⊢
    try simp only [beq_iff_eq, beq_eq_false_iff_ne, ne_eq] at *
    omega
theorem behind_op (f s c : Int) (w : World) (h : okRun (f, s, c)) (hr : runI (f, s, c) = true) : Calls Try.prog 33 #[.agg #[.int .u8 f, .int .u64 s, .int .u64 c]] w fun e w' => e = .returned (.agg #[.int .u8 f, .int .u64 (s + c)]) ∧ Kept No w w' := by
  have hw : IntKind.u64.wrap (s + c) = s + c := by
    rw [okRun_iff] at h
    rw [runI_iff] at hr
    simp only [IntKind.wrap_u64] at *
    omega
  clear h hr
  go_enter Try.func33, Try.ntmps33
  go_wp2
  refine bodyPost_ret (res_cell (by rfl) _ _ (w.heap.size + 1) 0 (by rfl) [.int .u8 f, .int .u64 (s + c)] agg33 (two_cells (by simp) (by simp))) rfl ?_
  exact ⟨rfl, by first | exact ((Kept.refl No w).alloc _).alloc _ | exact (((Kept.refl No w).alloc _).alloc _).setCell (fun h => by simp at h; omega) _ | exact ((((Kept.refl No w).alloc _).alloc _).setCell (fun h => by simp at h; omega) _).setCell (fun h => by simp at h; omega) _⟩
theorem last_ref (f s c : Int) (w : World) (h : okRun (f, s, c)) (hr : runI (f, s, c) = true) : Calls Try.prog 34 #[.agg #[.int .u8 f, .int .u64 s, .int .u64 c]] w fun e w' => e = .returned (.int .u64 (s + c - 1)) ∧ Kept No w w' := by
  have HR : Hid (okRun (f, s, c) ∧ runI (f, s, c) = true) := ⟨h, hr⟩
  clear h hr
  go_enter Try.func34, Try.ntmps34
  go_wp2
  go_ret
  refine ⟨ret_int ?_, (Kept.refl _ _).alloc _⟩
  have h1 := okRun_iff.1 HR.out.1
  have h2 := runI_iff.1 HR.out.2
  simp only [IntKind.wrap_u64] at *
  omega
end Go.Proofs.Ytjokkmhndahnkaa
