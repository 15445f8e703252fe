/- The package pull, second part: helpers, lacks. -/
import Derived.Test.YtfnecdkfhackkaaPul1
set_option linter.unusedVariables false
set_option linter.unusedSimpArgs false
namespace Go.Proofs.Ytfnecdkfhackkaa
open Go.RowKit

theorem one_cell_sl {k : IntKind} {w : World} {F : Nat → Prop} {v : Value} {x : Int} (h : Sl (kI k) w F v [x]) : ∃ b o c, v = .slice (some ⟨b, o, none⟩) 1 c ∧ w.cell? ⟨b, o, none⟩ = some (.int k x) := by
  rcases h.ints with ⟨h, _⟩ | ⟨_, _, b, o, c, rfl, _, _, _, _, hc⟩
  · cases h
  · exact ⟨b, o, c, rfl, (hc 0 x rfl).1⟩
set_option maxRecDepth 20000 in
theorem helpers_nil (px : Option Addr) (f s : Int) (w : World) : Calls Try.prog 58 #[.pointer px, .agg #[.int .u8 f, .int .u64 s], .pointer none, .slice none 0 0] w fun e w' => e = .returned (.slice none 0 0) ∧ Kept No w w' := by
  have hh := fun W => holders_nil f s W
  have hd := fun W fn => deleteFunc_none (.slice none 0 0) fn W ((indexFunc_nil none 0 fn W).mono fun e w' h => ⟨h.1, h.2 ▸ Kept.refl _ _⟩)
  have HW : Hid (Kept No w (((w.alloc (.cells #[.pointer px] 58)).alloc (.cells #[.int .u8 f, .int .u64 s] 40)).alloc (.cells #[.slice none 0 0] 42))) := (((Kept.refl _ _).alloc _).alloc _).alloc _
  go_enter Try.func58, Try.ntmps58
  go_wp2_with (first | (go_at_call 26; ((with_reducible refine (hh _).mono ?_); rintro e w1 ⟨rfl, hk1⟩)) | (go_at_call 72; ((with_reducible refine (hd _ _).mono ?_); rintro e w2 ⟨rfl, hk2⟩)))
  go_ret
  exact ⟨rfl, (HW.out.trans hk1).trans hk2⟩

set_option maxRecDepth 20000 in
theorem pred_one (b4 b7 px : Nat) (w : World) (h4 : w.cell? ⟨b4, 0, none⟩ = some (.pointer (some ⟨px, 0, none⟩))) (h7 : w.cell? ⟨b7, 0, none⟩ = some (.slice none 0 0)) (hn : w.cell? ⟨px, 0, none⟩ = some (.int .i64 2)) (hm : w.cell? ⟨px, 1, none⟩ = some (.int .i64 0)) :
    Calls Try.prog 73 #[.int .i64 1, .pointer (some ⟨b4, 0, none⟩), .pointer (some ⟨b7, 0, none⟩)] w fun e w' => e = .returned (.bool false) ∧ w = w' := by
  have hc := contains_none none 0 1 w
  go_enter Try.func73, Try.ntmps73
  go_wp2_with (go_at_call 60; ((with_reducible refine hc.mono ?_); rintro e w1 ⟨rfl, rfl⟩))
  go_ret
  exact ⟨rfl, rfl⟩
set_option maxRecDepth 20000 in
theorem indexFunc_one (b4 b7 px b off c : Nat) (w : World) (h4 : w.cell? ⟨b4, 0, none⟩ = some (.pointer (some ⟨px, 0, none⟩))) (h7 : w.cell? ⟨b7, 0, none⟩ = some (.slice none 0 0)) (hn : w.cell? ⟨px, 0, none⟩ = some (.int .i64 2)) (hm : w.cell? ⟨px, 1, none⟩ = some (.int .i64 0))
    (hx : w.cell? ⟨b, off, none⟩ = some (.int .i64 1)) : Calls Try.prog 81 #[.slice (some ⟨b, off, none⟩) 1 c, .func (.func 73) #[] #[.pointer (some ⟨b4, 0, none⟩), .pointer (some ⟨b7, 0, none⟩)]] w fun e w' => e = .returned (.int .i64 (-1)) ∧ w = w' := by
  have hp := pred_one b4 b7 px w h4 h7 hn hm
  have HX : Hid (w.cell? ⟨b, off, none⟩ = some (.int .i64 1)) := hx
  clear h4 h7 hn hm hx
  go_enter Try.func81, Try.ntmps81
  go_wp2
  go_loopw [8] (fun i wr => ∃ k : Nat, k ≤ 1 ∧ i = .int .i64 k ∧ w = wr) (fun i _ => 1 - (intOf i).toNat)
  case atStart => exact ⟨0, Nat.zero_le _, rfl, rfl⟩
  case round =>
    obtain ⟨k, hk, rfl, rfl⟩ := hrel
    by_cases hlt : k < 1
    · have : k = 0 := by omega
      subst this
      have hc := HX.out
      go_wp2_with (go_at_call 73; go_loud ((with_reducible refine hp.mono ?_); rintro e w1 ⟨rfl, rfl⟩))
      go_roundw
      case rel => exact ⟨1, by omega, by go_num, by first | rfl | trivial⟩
      case measure => simp [intOf]
    · have : k = 1 := by omega
      subst this
      go_wp2
      go_ret
      exact ⟨rfl, rfl⟩

set_option maxRecDepth 20000 in
theorem helpers_one {b rb N : Nat} {rows : List Row} {G : Nat → Prop} (w : World) (hm : MatAt w b rb N rows G) (px : Nat) (h0 : w.cell? ⟨px, 0, none⟩ = some (.int .i64 2)) (h1 : w.cell? ⟨px, 1, none⟩ = some (.int .i64 0)) (f : Nat) (s : Int) (hf : (f : Int) ≤ 255) (hh : holdersM N rows f s = [1]) :
    Calls Try.prog 58 #[.pointer (some ⟨px, 0, none⟩), .agg #[.int .u8 f, .int .u64 s], .pointer (some ⟨b, 0, none⟩), .slice none 0 0] w fun e w' => ∃ g o c, e = .returned (.slice (some ⟨g, o, none⟩) 1 c) ∧ w'.cell? ⟨g, o, none⟩ = some (.int .i64 1) ∧ Kept No w w' := by
  obtain ⟨w3, hw3⟩ : ∃ w3, w3 = ((w.alloc (.cells #[.pointer (some ⟨px, 0, none⟩)] 58)).alloc (.cells #[.int .u8 f, .int .u64 s] 40)).alloc (.cells #[.slice none 0 0] 42) := ⟨_, rfl⟩
  have hk3 : Kept No w w3 := by rw [hw3]; exact (((Kept.refl _ _).alloc _).alloc _).alloc _
  have e7 := heap_alloc_new ((w.alloc (.cells #[.pointer (some ⟨px, 0, none⟩)] 58)).alloc (.cells #[.int .u8 f, .int .u64 s] 40)) (.cells #[.slice none 0 0] 42)
  simp only [World.size_alloc] at e7
  rw [← hw3] at e7
  have e4 : w3.cell? ⟨w.heap.size, 0, none⟩ = some (.pointer (some ⟨px, 0, none⟩)) := by rw [hw3]; exact (((Kept.refl No _).alloc _).alloc _).cell (by simp) id
  have hH := holders_any w3 (hm.new hk3) f s hf
  rw [hh] at hH
  have HW3 : Hid (w3 = ((w.alloc (.cells #[.pointer (some ⟨px, 0, none⟩)] 58)).alloc (.cells #[.int .u8 f, .int .u64 s] 40)).alloc (.cells #[.slice none 0 0] 42)) := hw3
  have HC : Hid (w3.cell? ⟨w.heap.size, 0, none⟩ = some (.pointer (some ⟨px, 0, none⟩)) ∧ w3.cell? ⟨w.heap.size + 1 + 1, 0, none⟩ = some (.slice none 0 0) ∧ w3.cell? ⟨px, 0, none⟩ = some (.int .i64 2) ∧ w3.cell? ⟨px, 1, none⟩ = some (.int .i64 0) ∧ Kept No w w3) := ⟨e4, by rw [cell_of_row _ _ 0 _ _ _ e7]; rfl, hk3.cell h0 id, hk3.cell h1 id, hk3⟩
  clear hw3 hk3 e7 e4 hm h0 h1 hh
  go_enter Try.func58, Try.ntmps58
  go_wp2_with (first
    | (go_at_call 26; rw [← HW3.out]; ((with_reducible refine hH.mono ?_); rintro e w4 ⟨v4, rfl, hs4, hk4⟩; obtain ⟨g, o, c, rfl, hg⟩ := one_cell_sl hs4; have H4 : Hid (Kept No w3 w4 ∧ w4.cell? ⟨g, o, none⟩ = some (.int .i64 1)) := ⟨hk4, hg⟩; have hD := deleteFunc_none _ _ w4 ((indexFunc_one w.heap.size (w.heap.size + 1 + 1) px g o c w4 (hk4.cell HC.out.1 id) (hk4.cell HC.out.2.1 id) (hk4.cell HC.out.2.2.1 id) (hk4.cell HC.out.2.2.2.1 id) hg).mono fun e w' h => ⟨h.1, h.2 ▸ Kept.refl _ _⟩); clear hs4 hk4 hg))
    | (go_at_call 72; go_loud ((with_reducible refine hD.mono ?_); rintro e w5 ⟨rfl, hk5⟩)))
  go_ret
  exact ⟨g, o, c, rfl, hk5.cell H4.out.2 id, (HC.out.2.2.2.2.trans H4.out.1).trans hk5⟩
end Go.Proofs.Ytfnecdkfhackkaa
