/- The package pull, first part: slices.Index, Contains, ring.of, ring.Way of two, DeleteFunc that deletes nothing. -/
import Derived.Test.YtfnecdkfhackkaaMRises
import Derived.Test.YtfnecdkfhackkaaR18g
set_option linter.unusedVariables false
set_option linter.unusedSimpArgs false
namespace Go.Proofs.Ytfnecdkfhackkaa
open Go.RowKit

theorem index_none (A : Option Addr) (c : Nat) (p : Int) (w : World) : Calls Try.prog 75 #[.slice A 0 c, .int .i64 p] w fun e w' => e = .returned (.int .i64 (-1)) ∧ w = w' := by
  go_enter Try.func75, Try.ntmps75
  go_wp2
  go_loopw [8] (fun i wr => i = .int .i64 0 ∧ w = wr) (fun _ _ => 0)
  case atStart => exact ⟨rfl, rfl⟩
  case round =>
    obtain ⟨rfl, rfl⟩ := hrel
    go_wp2
    go_ret
    exact ⟨rfl, rfl⟩
theorem contains_none (A : Option Addr) (c : Nat) (p : Int) (w : World) : Calls Try.prog 60 #[.slice A 0 c, .int .i64 p] w fun e w' => e = .returned (.bool false) ∧ w = w' := by
  have h := index_none A c p w
  go_enter Try.func60, Try.ntmps60
  go_wp2_with (go_at_call 75; ((with_reducible refine h.mono ?_); rintro e w' ⟨rfl, rfl⟩))
  go_ret
  exact ⟨rfl, rfl⟩
theorem index_first (b off n c : Nat) (p : Int) (w : World) (hn : 1 ≤ n) (hc : w.cell? ⟨b, off, none⟩ = some (.int .i64 p)) : Calls Try.prog 75 #[.slice (some ⟨b, off, none⟩) n c, .int .i64 p] w fun e w' => e = .returned (.int .i64 0) ∧ w = w' := by
  have HC : Hid (w.cell? ⟨b, off, none⟩ = some (.int .i64 p)) := hc
  clear hc
  go_enter Try.func75, Try.ntmps75
  go_wp2
  go_loopw [8] (fun i wr => i = .int .i64 0 ∧ w = wr) (fun _ _ => 0)
  case atStart => exact ⟨rfl, rfl⟩
  case round =>
    obtain ⟨rfl, rfl⟩ := hrel
    have hc := HC.out
    go_wp2
    go_ret
    exact ⟨rfl, rfl⟩
theorem contains_first (b off n c : Nat) (p : Int) (w : World) (hn : 1 ≤ n) (hc : w.cell? ⟨b, off, none⟩ = some (.int .i64 p)) : Calls Try.prog 60 #[.slice (some ⟨b, off, none⟩) n c, .int .i64 p] w fun e w' => e = .returned (.bool true) ∧ w = w' := by
  have h := index_first b off n c p w hn hc
  go_enter Try.func60, Try.ntmps60
  go_wp2_with (go_at_call 75; ((with_reducible refine h.mono ?_); rintro e w' ⟨rfl, rfl⟩))
  go_ret
  exact ⟨rfl, rfl⟩
theorem of2_0 (b : Nat) (w : World) (hc : w.cell? ⟨b, 0, none⟩ = some (.int .i64 0)) : Calls Try.prog 74 #[.int .i64 2, .slice (some ⟨b, 0, none⟩) 1 1] w fun e w' => e = .returned (.bool true) ∧ w = w' := by
  have HC : Hid (w.cell? ⟨b, 0, none⟩ = some (.int .i64 0)) := hc
  clear hc
  go_enter Try.func74, Try.ntmps74
  go_wp2
  go_loopw [15] (fun i wr => ∃ k : Nat, k ≤ 1 ∧ i = .int .i64 k ∧ w = wr) (fun i _ => 1 - (intOf i).toNat)
  case atStart => exact ⟨0, Nat.zero_le _, rfl, rfl⟩
  case round =>
    obtain ⟨k, hk, rfl, rfl⟩ := hrel
    by_cases hlt : k < 1
    · have : k = 0 := by omega
      subst this
      have hc := HC.out
      go_wp2
      go_roundw
      case rel => exact ⟨1, by omega, by go_num, by first | rfl | trivial⟩
      case measure => simp [intOf]
    · have : k = 1 := by omega
      subst this
      go_wp2
      go_ret
      exact ⟨rfl, rfl⟩
set_option maxRecDepth 20000 in
theorem way2_0 (w : World) : Calls Try.prog 59 #[.int .i64 2, .int .i64 0, .slice none 0 0] w fun e w' => ∃ v', e = .returned v' ∧ TW (kI .i64) 3 w' No v' [1] ∧ Fresh w v' ∧ Kept No w w' := by
  have hof := fun W (hc : W.cell? ⟨w.heap.size, 0, none⟩ = some (.int .i64 0)) => of2_0 w.heap.size W hc
  have hcn := fun W => contains_none none 0 1 W
  go_enter Try.func59, Try.ntmps59
  go_wp2_with (go_at_call 74; ((with_reducible refine (hof _ (by simp)).mono ?_); rintro e w1 ⟨rfl, rfl⟩))
  go_loopw [7, 8] (fun o i wr => (i = .int .i64 1 ∧ o = .slice none 0 0 ∧ wr = w.alloc (.cells #[.int .i64 0] 3)) ∨ (i = .int .i64 2 ∧ TW (kI .i64) 3 wr No o [1] ∧ Fresh w o ∧ Kept No w wr)) (fun _ i _ => 2 - (intOf i).toNat)
  case atStart => exact .inl ⟨rfl, rfl, rfl⟩
  case round =>
    rcases hrel with ⟨rfl, rfl, rfl⟩ | ⟨rfl, htw, hfr, hke⟩
    · have ht0 : TW (kI .i64) 3 ((w.alloc (.cells #[.int .i64 0] 3)).alloc (.cells #[.int .i64 1] 3)) No (.slice none 0 0) [] := TW.nil _ _ _ _
      have hsr := src_newN (w := w.alloc (.cells #[.int .i64 0] 3)) (N := w.heap.size + 1) (e := 3) (c := .int .i64 1) (by simp) rfl
      have HT : Hid (TW (kI .i64) 3 ((w.alloc (.cells #[.int .i64 0] 3)).alloc (.cells #[.int .i64 1] 3)) No (.slice none 0 0) [] ∧ Src ((w.alloc (.cells #[.int .i64 0] 3)).alloc (.cells #[.int .i64 1] 3)) (fun k => k = w.heap.size + 1) 1 (.slice (some ⟨w.heap.size + 1, 0, none⟩) 1 1) 1 [.int .i64 1]) := ⟨ht0, hsr⟩
      clear ht0 hsr hof
      go_wp2_with (first | (go_at_call 60; ((with_reducible refine (hcn _).mono ?_); rintro e w1 ⟨rfl, rfl⟩)) | (at_builtin; go_must (refine wpList_append_tw (d := kI .i64) (G := No) (F := fun k' => k' = w.heap.size + 1) rfl (.tmp 29) (.tmp 31) 42 rfl 3 (.int .i64 0) 8 Try.underlying42 info_i64 rfl _ _ 1 _ [(1 : Int)] [.int .i64 1] rfl HT.out.1 rfl HT.out.2 (reps_ints (by simp [inr_i64])) rfl (fun _ h => h.elim) ?_ ?_ ?_)))
      · decide
      · decide
      · intro v' w' htw2 hk2 hb2
        have HF : Hid (TW (kI .i64) 3 w' No v' [1] ∧ Fresh w v' ∧ Kept No w w') := ⟨by simpa using htw2, (Fresh.nil w).next (w := (w.alloc (.cells #[.int .i64 0] 3)).alloc (.cells #[.int .i64 1] 3)) (by simp; omega) (by simpa using hb2), (((Kept.refl No w).alloc _).alloc _).fresh hk2 (Fresh.nil w)⟩
        clear htw2 hk2 hb2
        go_wp2
        go_roundw
        case rel => exact .inr ⟨by go_num, HF.out.1, HF.out.2.1, HF.out.2.2⟩
        case measure => simp [intOf]
    · go_wp2
      go_ret
      exact ⟨_, rfl, htw, hfr, hke⟩
theorem of2_1 (b : Nat) (w : World) (hc : w.cell? ⟨b, 0, none⟩ = some (.int .i64 1)) : Calls Try.prog 74 #[.int .i64 2, .slice (some ⟨b, 0, none⟩) 1 1] w fun e w' => e = .returned (.bool true) ∧ w = w' := by
  have HC : Hid (w.cell? ⟨b, 0, none⟩ = some (.int .i64 1)) := hc
  clear hc
  go_enter Try.func74, Try.ntmps74
  go_wp2
  go_loopw [15] (fun i wr => ∃ k : Nat, k ≤ 1 ∧ i = .int .i64 k ∧ w = wr) (fun i _ => 1 - (intOf i).toNat)
  case atStart => exact ⟨0, Nat.zero_le _, rfl, rfl⟩
  case round =>
    obtain ⟨k, hk, rfl, rfl⟩ := hrel
    by_cases hlt : k < 1
    · have : k = 0 := by omega
      subst this
      have hc := HC.out
      go_wp2
      go_roundw
      case rel => exact ⟨1, by omega, by go_num, by first | rfl | trivial⟩
      case measure => simp [intOf]
    · have : k = 1 := by omega
      subst this
      go_wp2
      go_ret
      exact ⟨rfl, rfl⟩
set_option maxRecDepth 20000 in
theorem way2_1 (w : World) : Calls Try.prog 59 #[.int .i64 2, .int .i64 1, .slice none 0 0] w fun e w' => ∃ v', e = .returned v' ∧ TW (kI .i64) 3 w' No v' [0] ∧ Fresh w v' ∧ Kept No w w' := by
  have hof := fun W (hc : W.cell? ⟨w.heap.size, 0, none⟩ = some (.int .i64 1)) => of2_1 w.heap.size W hc
  have hcn := fun W => contains_none none 0 0 W
  go_enter Try.func59, Try.ntmps59
  go_wp2_with (go_at_call 74; ((with_reducible refine (hof _ (by simp)).mono ?_); rintro e w1 ⟨rfl, rfl⟩))
  go_loopw [7, 8] (fun o i wr => (i = .int .i64 1 ∧ o = .slice none 0 0 ∧ wr = w.alloc (.cells #[.int .i64 1] 3)) ∨ (i = .int .i64 2 ∧ TW (kI .i64) 3 wr No o [0] ∧ Fresh w o ∧ Kept No w wr)) (fun _ i _ => 2 - (intOf i).toNat)
  case atStart => exact .inl ⟨rfl, rfl, rfl⟩
  case round =>
    rcases hrel with ⟨rfl, rfl, rfl⟩ | ⟨rfl, htw, hfr, hke⟩
    · have ht0 : TW (kI .i64) 3 ((w.alloc (.cells #[.int .i64 1] 3)).alloc (.cells #[.int .i64 0] 3)) No (.slice none 0 0) [] := TW.nil _ _ _ _
      have hsr := src_newN (w := w.alloc (.cells #[.int .i64 1] 3)) (N := w.heap.size + 1) (e := 3) (c := .int .i64 0) (by simp) rfl
      have HT : Hid (TW (kI .i64) 3 ((w.alloc (.cells #[.int .i64 1] 3)).alloc (.cells #[.int .i64 0] 3)) No (.slice none 0 0) [] ∧ Src ((w.alloc (.cells #[.int .i64 1] 3)).alloc (.cells #[.int .i64 0] 3)) (fun k => k = w.heap.size + 1) 1 (.slice (some ⟨w.heap.size + 1, 0, none⟩) 1 1) 1 [.int .i64 0]) := ⟨ht0, hsr⟩
      clear ht0 hsr hof
      go_wp2_with (first | (go_at_call 60; ((with_reducible refine (hcn _).mono ?_); rintro e w1 ⟨rfl, rfl⟩)) | (at_builtin; go_must (refine wpList_append_tw (d := kI .i64) (G := No) (F := fun k' => k' = w.heap.size + 1) rfl (.tmp 29) (.tmp 31) 42 rfl 3 (.int .i64 0) 8 Try.underlying42 info_i64 rfl _ _ 1 _ [(0 : Int)] [.int .i64 0] rfl HT.out.1 rfl HT.out.2 (reps_ints (by simp [inr_i64])) rfl (fun _ h => h.elim) ?_ ?_ ?_)))
      · decide
      · decide
      · intro v' w' htw2 hk2 hb2
        have HF : Hid (TW (kI .i64) 3 w' No v' [0] ∧ Fresh w v' ∧ Kept No w w') := ⟨by simpa using htw2, (Fresh.nil w).next (w := (w.alloc (.cells #[.int .i64 1] 3)).alloc (.cells #[.int .i64 0] 3)) (by simp; omega) (by simpa using hb2), (((Kept.refl No w).alloc _).alloc _).fresh hk2 (Fresh.nil w)⟩
        clear htw2 hk2 hb2
        go_wp2
        go_roundw
        case rel => exact .inr ⟨by go_num, HF.out.1, HF.out.2.1, HF.out.2.2⟩
        case measure => simp [intOf]
    · go_wp2
      go_ret
      exact ⟨_, rfl, htw, hfr, hke⟩

theorem indexFunc_nil (A : Option Addr) (c : Nat) (fn : Value) (w : World) : Calls Try.prog 81 #[.slice A 0 c, fn] w fun e w' => e = .returned (.int .i64 (-1)) ∧ w = w' := by
  go_enter Try.func81, Try.ntmps81
  go_wp2
  go_loopw [8] (fun i wr => i = .int .i64 0 ∧ w = wr) (fun _ _ => 0)
  case atStart => exact ⟨rfl, rfl⟩
  case round =>
    obtain ⟨rfl, rfl⟩ := hrel
    go_wp2
    go_ret
    exact ⟨rfl, rfl⟩
theorem deleteFunc_none (v fn : Value) (w : World) (h : Calls Try.prog 81 #[v, fn] w fun e w' => e = .returned (.int .i64 (-1)) ∧ Kept No w w') : Calls Try.prog 72 #[v, fn] w fun e w' => e = .returned v ∧ Kept No w w' := by
  go_enter Try.func72, Try.ntmps72
  go_wp2_with (go_at_call 81; ((with_reducible refine h.mono ?_); rintro e w1 ⟨rfl, hk1⟩))
  go_ret
  exact ⟨rfl, hk1⟩
end Go.Proofs.Ytfnecdkfhackkaa
