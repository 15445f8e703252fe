/- The package store, sixth part: nil ones; the example of the stage: awake of unisonlaw14; StoreNil. -/
import Derived.Test.YtnmjholnnnclcaaSt5
import Derived.Lib.SmallJoins
set_option linter.unusedVariables false
set_option linter.unusedSimpArgs false
namespace Go.Proofs.Ytnmjholnnnclcaa
open Go.RowKit

theorem get_snil (a b : Int) (w : World) : Calls Try.prog 21 #[.pointer none, .agg #[.int .u8 a, .int .u64 b]] w fun e w' => e = .returned (.tuple #[.slice none 0 0, .bool false]) ∧ Kept No w w' := by
  go_enter Try.func21, Try.ntmps21
  go_wp2
  refine bodyPost_ret (results_tmp2 (by rfl) _ _ _) rfl ?_
  exact ⟨rfl, (Kept.refl _ _).alloc _⟩
theorem drop_snil (v : Value) (w : World) : Calls Try.prog 11 #[.pointer none, v] w fun e w' => e = .returned (.int .i64 0) ∧ Kept No w w' := by
  go_enter Try.func11, Try.ntmps11
  go_wp2
  go_ret
  exact ⟨rfl, (Kept.refl _ _).alloc _⟩
theorem has_snil0 (w : World) : Calls Try.prog 14 #[.pointer none, .slice none 0 0] w fun e w' => e = .returned (.bool true) ∧ w = w' := by
  go_enter Try.func14, Try.ntmps14
  go_wp2
  go_loopw [11] (fun i wr => i = .int .i64 0 ∧ w = wr) (fun i _ => 0)
  case atStart => exact ⟨rfl, rfl⟩
  case round =>
    obtain ⟨rfl, rfl⟩ := hrel
    go_wp2
    go_ret
    exact ⟨rfl, rfl⟩
theorem has_snil1 (bq : Nat) (a b : Int) (w : World) (h0 : w.cell? ⟨bq, 0, none⟩ = some (.int .u8 a)) (h1 : w.cell? ⟨bq, 1, none⟩ = some (.int .u64 b)) : Calls Try.prog 14 #[.pointer none, .slice (some ⟨bq, 0, none⟩) 1 1] w fun e w' => e = .returned (.bool false) ∧ Kept No w w' := by
  have HC : Hid (w.cell? ⟨bq, 0, none⟩ = some (.int .u8 a) ∧ w.cell? ⟨bq, 1, none⟩ = some (.int .u64 b)) := ⟨h0, h1⟩
  clear h0 h1
  go_enter Try.func14, Try.ntmps14
  go_wp2
  go_loopw [11] (fun i wr => i = .int .i64 0 ∧ w = wr) (fun i _ => 0)
  case atStart => exact ⟨rfl, rfl⟩
  case round =>
    obtain ⟨rfl, rfl⟩ := hrel
    have c0 := HC.out.1
    have c1 := HC.out.2
    go_wp2
    go_ret
    exact ⟨rfl, (Kept.refl _ _).alloc _⟩
theorem vecIs_one {w : World} {F : Nat → Prop} {v : Value} {x : Int} (h : Sl (kI .u64) w F v [x]) (y : Int) : Calls Try.prog 22 #[v, .int .u64 y] w fun e w' => e = .returned (.bool (decide (x = y))) ∧ w = w' := by
  rcases h.ints with ⟨h, _⟩ | ⟨_, _, b, o, c, rfl, hl, _, _, _, hc⟩
  · cases h
  · have c0 := (hc 0 x rfl).1
    simp only [Nat.add_zero] at c0
    simp only [List.length_cons, List.length_nil, Nat.zero_add] at hl ⊢
    clear hc h
    have hbq : (x == y) = decide (x = y) := rfl
    go_enter Try.func22, Try.ntmps22
    go_wp2
    go_ret
    exact ⟨rfl, rfl⟩

theorem slb_one {w : World} {F : Nat → Prop} {b : Nat} {x : Int} (hc : w.cell? ⟨b, 0, none⟩ = some (.int .u8 x)) (hx : InR .u8 x) (hF : F b) : Sl (kI .u8) w F (.slice (some ⟨b, 0, none⟩) 1 1) [x] :=
  ⟨[.int .u8 x], ⟨_, 1, rfl, Nat.le_refl _, by decide, rfl, fun u hu => by rw [List.mem_singleton.1 hu]; rfl, fun _ => ⟨b, 0, rfl, hF, fun j u hj => by
    cases j with
    | zero => have : Value.int .u8 x = u := by simpa using hj
              subst this; simpa using hc
    | succ j => simp at hj⟩⟩, Reps.single (p := x) (c := [.int .u8 x]) ⟨rfl, hx⟩ rfl⟩
/-- Put of one byte that was just laid. -/
theorem put_lit {w : World} {sb mb fb hb : Nat} {used : Int} {l : PL} {x : Int} (H : StoreAt w sb mb fb hb 1 9 used l [0] [x]) (b z : Int) (hb1 : mayI 0 b 1 = true) (hB : hasL l (0, b) = false) (hl : IdsOk 1 l) (hu : 0 ≤ used ∧ used ≤ 8) (bx : 0 ≤ x ∧ x ≤ 4611686018427387904) (hz : 0 ≤ z ∧ z ≤ 255) :
    Calls Try.prog 10 #[.pointer (some ⟨sb, 0, none⟩), .agg #[.int .u8 0, .int .u64 b], .slice (some ⟨w.heap.size, 0, none⟩) 1 1] (w.alloc (.cells #[.int .u8 z] 5 (1, 2))) fun e w' =>
      e = .returned (.bool true) ∧ ∃ v, StoreAt w' sb mb fb hb 1 9 (used + 1) (l ++ [((0, b), v)]) [0] [riseTo (l ++ [((0, b), v)]) 0 (max x 0)] ∧ Kept (OwnS sb mb fb hb) w w' := by
  have hk : Kept No w (w.alloc (.cells #[.int .u8 z] 5 (1, 2))) := (Kept.refl _ _).alloc _
  have hb2 : 1 ≤ b ∧ b ≤ 4611686018427387904 := by simp only [mayI, Bool.and_eq_true, decide_eq_true_eq] at hb1; omega
  have c1 : (w.alloc (.cells #[.int .u8 z] 5 (1, 2))).cell? ⟨w.heap.size, 0, none⟩ = some (.int .u8 z) := by rw [cell_of_row _ _ 0 _ _ _ (heap_alloc_new _ _)]; rfl
  refine (put_ok (H.new hk) 0 b 0 (by omega) 1 _ _ hb1 rfl (by omega) hB (by rw [IntKind.wrap_i64]; omega) (by omega) (by rw [IntKind.wrap_i64]; omega) x rfl hl bx (by omega) (by omega) (fun k => k = w.heap.size) [z] (slb_one c1 (inr_u8.2 hz) rfl) (fun k hk => by subst hk; simp) (fun k hk ho => ?_) (by simp)).mono ?_
  · subst hk
    rcases ho with e | e | e | e
    · have := H.lt; omega
    · have := H.m.lt; omega
    · have := H.f.lt; omega
    · have := H.h.lt; omega
  · rintro e w' ⟨he, v, h1, h2, h3, h4⟩
    exact ⟨he, v, h1, hk.no.trans h4⟩
theorem OwnS.lt {w : World} {sb mb fb hb n : Nat} {room used : Int} {l : PL} {fl hd : List Int} (H : StoreAt w sb mb fb hb n room used l fl hd) (k : Nat) (h : OwnS sb mb fb hb k) : k < w.heap.size := by
  rcases h with rfl | rfl | rfl | rfl
  · exact H.lt
  · exact H.m.lt
  · exact H.f.lt
  · exact H.h.lt
theorem lit_conv (w : World) (z : Int) : (convert 31 31 (.slice (some ⟨w.heap.size, 0, none⟩) 1 1)).run Try.prog (w.alloc (.cells #[.int .u8 z] 5)) = .ok (.slice (some ⟨w.heap.size, 0, none⟩) 1 1) (w.alloc (.cells #[.int .u8 z] 5 (1, 2))) :=
  Go.Joins.run_convert_bytes_const_at (P := Try.prog) w 31 5 #[.int .u8 z] 1 1 _ rfl Try.underlying31 Try.underlying5
set_option maxHeartbeats 1000000 in
theorem awake14_any (w : World) : Calls Try.prog 6 #[] w fun e w' => e = .returned (.bool true) ∧ Kept No w w' := by
  have hN := new_st 1 9 w
  rw [show (max 1 (min (1 : Int) 64)).toNat = 1 by decide, show max (9 : Int) 0 = 9 by decide] at hN
  go_enter Try.func6, Try.ntmps6
  go_wp2_with (first
    | (go_at_call 7; ((with_reducible refine hN.mono ?_); rintro e w1 ⟨sb, rfl, mb, fb, hb, h1, k1, o1⟩; have P1 := put_lit (x := 0) h1 2 98 (by decide) (by rfl) (fun _ h => by cases h) (by omega) (by omega) (by omega); have C1 := lit_conv w1 98; have H1 : Hid (Kept No w w1 ∧ (∀ k, OwnS sb mb fb hb k → w.heap.size ≤ k)) := ⟨k1, o1⟩; clear hN h1 k1 o1))
    | (go_at_call 10; first
      | ((with_reducible refine P1.mono ?_); rintro e w2 ⟨rfl, v1, h2, k2⟩; rw [show riseTo ([] ++ [(((0 : Int), (2 : Int)), v1)]) 0 (max 0 0) = 0 from rfl] at h2; have HE := held_st h2 (by simp [inr_u64]); have H2 : Hid (Kept No w w2 ∧ StoreAt w2 sb mb fb hb 1 9 (0 + 1) ([] ++ [(((0 : Int), (2 : Int)), v1)]) [0] [0]) := ⟨H1.out.1.trans2 k2 (fun i hi ho => absurd (H1.out.2 i ho) (by omega)), h2⟩; clear P1 h2 k2 C1)
      | ((with_reducible refine P2.mono ?_); rintro e w4 ⟨rfl, v2, h4, k4⟩; rw [show riseTo (([] ++ [(((0 : Int), (2 : Int)), v1)]) ++ [(((0 : Int), (1 : Int)), v2)]) 0 (max 0 0) = 2 from rfl] at h4; have VI := vecIs_one (H3.out.2.1.kept k4 (fun k hk ho => absurd (H3.out.2.2 k hk) (by have := OwnS.lt H2.out.2 k ho; omega)) (fun _ h => h.elim)).sl 0; have HE2 := held_st h4 (by simp [inr_u64]); have H4 : Hid (Kept No w w4) := H3.out.1.trans2 k4 (fun i hi ho => absurd (H1.out.2 i ho) (by omega)); clear P2 h4 k4 C2))
    | (go_at_call 8; first
      | ((with_reducible refine HE2.mono ?_); rintro e w5 ⟨v5, rfl, t5, f5, k5⟩; have VJ := vecIs_one t5.sl 2; have H5 : Hid (Kept No w w5) := H4.out.trans k5; clear HE2 t5 f5 k5)
      | ((with_reducible refine HE.mono ?_); rintro e w3 ⟨v3, rfl, t3, f3, k3⟩; have P2 := put_lit (x := 0) (H2.out.2.new k3) 1 97 (by decide) (by rfl) (fun p hp => by simp at hp; subst hp; simp) (by omega) (by omega) (by omega); have C2 := lit_conv w3 97; have H3 : Hid (Kept No w w3 ∧ TW (kI .u64) 28 w3 No v3 [0] ∧ Fresh w2 v3) := ⟨H2.out.1.trans k3, t3, f3⟩; clear HE t3 f3 k3))
    | (go_at_call 22; first
      | ((with_reducible refine VJ.mono ?_); rintro e w6 ⟨rfl, rfl⟩)
      | ((with_reducible refine VI.mono ?_); rintro e w6 ⟨rfl, rfl⟩)))
  go_ret
  exact ⟨rfl, H5.out⟩
set_option maxHeartbeats 1000000 in
theorem storeNil_any (a b : Int) (w : World) : Calls Try.prog 5 #[.agg #[.int .u8 a, .int .u64 b]] w fun e w' => e = .returned (.bool true) ∧ Kept No w w' := by
  have T0 : Hid (∀ w1, Kept No (w.alloc (.cells #[.int .u8 a, .int .u64 b] 30)) w1 → Kept No w w1 ∧ w1.cell? ⟨w.heap.size, 0, none⟩ = some (.int .u8 a) ∧ w1.cell? ⟨w.heap.size, 1, none⟩ = some (.int .u64 b)) := fun w1 h =>
    ⟨((Kept.refl _ _).alloc _).trans h, h.cell (by simp) id, h.cell (by simp) id⟩
  go_enter Try.func5, Try.ntmps5
  go_wp2_with (first
    | (go_at_call 21; ((with_reducible refine (get_snil a b _).mono ?_); rintro e w1 ⟨rfl, k1⟩; have X1 := T0.out _ k1; have c0 := X1.2.1; have c1 := X1.2.2; have K1 : Hid (Kept No (w.alloc (.cells #[.int .u8 a, .int .u64 b] 30)) w1) := k1; clear X1 k1))
    | (go_at_call 10; ((with_reducible refine (put_snil (.int .u8 a) _ a b _).mono ?_); rintro e w2 ⟨rfl, k2⟩; have K2 : Hid (Kept No (w.alloc (.cells #[.int .u8 a, .int .u64 b] 30)) w2) := (K1.out.alloc _).trans k2; have X2 := T0.out _ K2.out; have c02 := X2.2.1; have c12 := X2.2.2; clear X2 k2 c0 c1))
    | (go_at_call 14; first
      | ((with_reducible refine (has_snil0 _).mono ?_); rintro e w4 ⟨rfl, rfl⟩)
      | ((with_reducible refine (has_snil1 _ a b _ (by simp) (by simp)).mono ?_); rintro e w3 ⟨rfl, k3⟩; have K3 : Hid (Kept No (w.alloc (.cells #[.int .u8 a, .int .u64 b] 30)) w3) := (K2.out.alloc _).trans k3; clear k3 c02 c12))
    | (go_at_call 11; ((with_reducible refine (drop_snil _ _).mono ?_); rintro e w5 ⟨rfl, k5⟩; have K5 : Hid (Kept No (w.alloc (.cells #[.int .u8 a, .int .u64 b] 30)) w5) := ((K3.out.alloc _).alloc _).trans k5; clear k5))
    | (go_at_call 8; ((with_reducible refine (held_snil _).mono ?_); rintro e w6 ⟨rfl, rfl⟩))
    | (go_at_call 9; ((with_reducible refine (floor_snil _).mono ?_); rintro e w6 ⟨rfl, rfl⟩))
    | (go_at_call 13; ((with_reducible refine (used_snil _).mono ?_); rintro e w6 ⟨rfl, rfl⟩))
    | (go_at_call 18; ((with_reducible refine (len_snil _).mono ?_); rintro e w6 ⟨rfl, rfl⟩))
    | (go_at_call 6; ((with_reducible refine (awake14_any _).mono ?_); rintro e w7 ⟨rfl, k7⟩)))
  go_ret
  exact ⟨rfl, (T0.out _ (K5.out.trans k7)).1⟩
end Go.Proofs.Ytnmjholnnnclcaa
