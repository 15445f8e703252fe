/- The package pull: the example of the stage, and PullNil's walk. -/
import Derived.Test.YtfnecdkfhackkaaPul6
set_option linter.unusedVariables false
set_option linter.unusedSimpArgs false
namespace Go.Proofs.Ytfnecdkfhackkaa
open Go.RowKit

def rowsB : List Row := tell (List.replicate 2 (zrow 2)) 1 0 [] [3]
theorem rowsB_holders : holdersM 2 rowsB 0 2 = [1] := by decide
theorem next_asks {b rb px : Nat} {G F : Nat → Prop} (w : World) (hm : MatAt w b rb 2 rowsB G) (HP : Hid (Puller0 w px 2)) (n1 : b ≠ px) (n2 : rb ≠ px) (n3 : ¬ G px) (hv : Value) (hh : Sl (kI .u64) w F hv [1]) :
    Calls Try.prog 39 #[.pointer (some ⟨px, 0, none⟩), .int .i64 0, hv, .pointer (some ⟨b, 0, none⟩), .slice none 0 0] w fun e w' => e = .returned (.tuple #[.agg #[.int .u8 0, .int .u64 2], .int .i64 1, .bool true]) ∧ Kept (fun k => k = px) w w' := by
  have hat : ∀ W, Kept No w W → Calls Try.prog 71 #[hv, .int .i64 0] W fun e w' => e = .returned (.int .u64 1) ∧ W = w' := fun W hW => at_any hv [1] 0 W F (hh.new hW)
  have hP0 : w.cell? ⟨px, 0, none⟩ = some (.int .i64 2) := by rw [cell_of_row _ _ 0 _ _ _ HP.out]; rfl
  have hP1 : w.cell? ⟨px, 1, none⟩ = some (.int .i64 0) := by rw [cell_of_row _ _ 1 _ _ _ HP.out]; rfl
  refine next_first px 2 hv (.pointer (some ⟨b, 0, none⟩)) w HP ?_ ?_
  · intro W hW
    refine choose_first px 2 1 2 (by decide) hv (.pointer (some ⟨b, 0, none⟩)) W (show Hid _ from (hW.block _ (lt_of_heap HP.out) id).trans HP.out) (show Hid _ from fun V hV => hat V (hW.trans hV)) ?_
    intro V hV
    refine lacks_true px 0 (by decide) 2 1 (by decide) hv (.pointer (some ⟨b, 0, none⟩)) V ((hW.trans hV).cell hP0 id) (show Hid _ from fun U hU => hat U ((hW.trans hV).trans hU)) ?_
    intro U hU
    have k := (hW.trans hV).trans hU
    refine (helpers_one U (hm.new k) px (k.cell hP0 id) (k.cell hP1 id) 0 2 (by decide) rowsB_holders).mono ?_
    rintro e w' ⟨g, o, c, rfl, _, hk⟩
    exact ⟨_, c, rfl, hk⟩
  · intro W hW h0 h1
    exact helpers_one W (hm.kept hW n1 n2 (fun k hk e => n3 (by have e : k = px := e; exact e ▸ hk))) px h0 h1 0 2 (by decide) rowsB_holders

theorem next_asks_none (now : Int) (hv : Value) (held : List Int) (F : Nat → Prop) (w : World) (px : Nat) (a : Int) (HP : Hid (Puller0 w px a)) (hh : Sl (kI .u64) w F hv held) :
    Calls Try.prog 39 #[.pointer (some ⟨px, 0, none⟩), .int .i64 now, hv, .pointer none, .slice none 0 0] w fun e w' => e = .returned (.tuple #[.agg #[.int .u8 0, .int .u64 0], .int .i64 (-1), .bool false]) ∧ Kept No w w' := by
  have hat : ∀ (i : Nat) W, Kept No w W → Calls Try.prog 71 #[hv, .int .i64 i] W fun e w' => e = .returned (.int .u64 (vat held i)) ∧ W = w' := fun i W hW => at_any hv held i W F (hh.new hW)
  have hP0 : w.cell? ⟨px, 0, none⟩ = some (.int .i64 2) := by rw [cell_of_row _ _ 0 _ _ _ HP.out]; rfl
  have hl : ∀ (i : Nat), i < 2 → ∀ W, Kept No w W → Calls Try.prog 56 #[.pointer (some ⟨px, 0, none⟩), .agg #[.int .u8 i, .int .u64 (IntKind.u64.wrap (vat held i + 1))], hv, .pointer none, .slice none 0 0] W fun e w' => e = .returned (.bool false) ∧ Kept No W w' := by
    intro i hi W hW
    refine lacks_false px i hi _ (vat held i) rfl hv (.pointer none) W (hW.cell hP0 id) (show Hid _ from fun U hU => hat i U (hW.trans hU)) ?_
    intro U hU
    refine (helpers_nil (some ⟨px, 0, none⟩) i _ U).mono ?_
    rintro e w' ⟨rfl, hk⟩
    exact ⟨none, 0, rfl, hk⟩
  refine next_none px a now hv (.pointer none) w HP ?_
  intro W hW
  exact choose_none px a (vat held 0) (vat held 1) _ _ rfl rfl hv (.pointer none) W (show Hid _ from (hW.block _ (lt_of_heap HP.out) id).trans HP.out) (show Hid _ from fun V hV => hat 0 V (hW.trans hV)) (show Hid _ from fun V hV => hat 1 V (hW.trans hV)) (show Hid _ from fun V hV => hl 0 (by decide) V (hW.trans hV)) (show Hid _ from fun V hV => hl 1 (by decide) V (hW.trans hV))

set_option maxRecDepth 20000 in
set_option maxHeartbeats 2000000 in
theorem awake20_any (w : World) : Calls Try.prog 37 #[] w fun e w' => e = .returned (.bool true) ∧ Kept No w w' := by
  have hN := new_any 2 w
  rw [show (max 1 (min (2 : Int) 64)).toNat = 2 by decide] at hN
  go_enter Try.func37, Try.ntmps37
  go_wp2_with (first
    | (go_at_call 13; ((with_reducible refine hN.mono ?_); rintro e w1 ⟨b, rb, G, rfl, hm, hk, hrb, hb, hG⟩; have HM : Hid (MatAt w1 b rb 2 (List.replicate 2 (zrow 2)) G) := hm; have hc3 : (w1.alloc (.cells #[.int .u64 3] 26)).cell? ⟨w1.heap.size, 0, none⟩ = some (.int .u64 3) := (by simp); have hrl := hm.lt.2; have T1 := tell_any (F := fun k => k = w1.heap.size) _ (hm.new ((Kept.refl No w1).alloc (.cells #[.int .u64 3] 26))) 1 0 (by simp [inr_u64]) (.slice none 0 0) (.slice (some ⟨w1.heap.size, 0, none⟩) 1 1) [] [3] (Sl.nil _ _ _) (sl_one hc3 (by simp [inr_u64]) rfl) (by omega) (by simp) (by simp); have H1 : Hid (Kept No w w1 ∧ w.heap.size ≤ rb) := ⟨hk, hrb⟩; clear hm hk hrb hb hG hc3))
    | (go_at_call 16; go_loud ((with_reducible refine T1.mono ?_); rintro e w2 ⟨rfl, hm2, hk2⟩; have H2 : Hid (MatAt w2 b rb 2 rowsB _ ∧ Kept No w w2) := ⟨hm2, (H1.out.1.alloc _).trans2 hk2 (by have := H1.out.2; intro i hi e; omega)⟩; clear T1 hm2 hk2))
    | (go_at_call 38; go_loud ((with_reducible refine (pnew_2 w2).mono ?_); rintro e w3 ⟨px, rfl, hP, hk3, hpx⟩; have H3 : Hid (Puller0 (w3.alloc (.cells #[.int .u64 1] 26)) px 2 ∧ Kept No w2 (w3.alloc (.cells #[.int .u64 1] 26)) ∧ w2.heap.size ≤ px) := ⟨(Below.heap_alloc _ _ _ (lt_of_heap hP)).trans hP, hk3.alloc _, hpx⟩; clear hP hk3 hpx; have hc1 : (w3.alloc (.cells #[.int .u64 1] 26)).cell? ⟨w3.heap.size, 0, none⟩ = some (.int .u64 1) := (by simp); have T4 := next_asks (w3.alloc (.cells #[.int .u64 1] 26)) (H2.out.1.new H3.out.2.1) (show Hid _ from H3.out.1) (by have := H2.out.1.lt.1; have := H3.out.2.2; omega) (by have := H2.out.1.lt.2; have := H3.out.2.2; omega) (fun h => by have := H2.out.1.glt _ h; have := H3.out.2.2; omega) (.slice (some ⟨w3.heap.size, 0, none⟩) 1 1) (sl_one (F := fun _ => True) hc1 (by simp [inr_u64]) trivial); clear hc1))
    | (go_at_call 39; go_loud ((with_reducible refine T4.mono ?_); rintro e w5 ⟨rfl, hk5⟩; have H5 : Hid (Kept No w w5) := (H2.out.2.trans H3.out.2.1).trans2 hk5 (by have := H3.out.2.2; have := H2.out.2.size; intro i hi e; omega); clear T4 hk5)))
  go_ret
  exact ⟨rfl, H5.out.alloc _⟩

set_option maxRecDepth 20000 in
set_option maxHeartbeats 2000000 in
theorem pullNil_any (now : Int) (v : Value) (held : List Int) (F : Nat → Prop) (w : World) (hl : Sl (kI .u64) w F v held) : Calls Try.prog 10 #[.int .i64 now, v] w fun e w' => e = .returned (.bool true) ∧ Kept No w w' := by
  have HA := fun W => awake20_any W
  obtain ⟨A, c, rfl, _⟩ := hl.slice
  by_cases hbig : 100 < held.length
  · have h1 : (100 : Int) < (held.length : Int) := by omega
    clear hl
    go_enter Try.func10, Try.ntmps10
    go_wp2_with (go_at_call 37; ((with_reducible refine (HA _).mono ?_); rintro e w' ⟨rfl, hk⟩))
    go_ret
    exact ⟨rfl, hk⟩
  · have h1 : ¬ (100 : Int) < (held.length : Int) := by omega
    have HL : Hid (Sl (kI .u64) w F (.slice A held.length c) held) := hl
    have hN := new_any 2 w
    have hnil := fun mp W => next_nilp now (.slice A held.length c) mp W
    clear hl
    go_enter Try.func10, Try.ntmps10
    go_wp2_with (first
      | (go_at_call 13; ((with_reducible refine hN.mono ?_); rintro e w1 ⟨b, rb, G, rfl, _, hk, _, _, _⟩; have H1 : Hid (Kept No w w1) := hk; clear hk))
      | (go_at_call 39; first
        | ((with_reducible refine (hnil _ _).mono ?_); rintro e w2 ⟨rfl, hk2⟩; have H2 : Hid (Kept No w w2) := H1.out.trans hk2; clear hk2)
        | (go_loud ((with_reducible refine T5.mono ?_); rintro e w6 ⟨rfl, hk6⟩; have H6 : Hid (Kept No w4 w6) := hk6; have x0 := hk6.cell x0 id; have x1 := hk6.cell x1 id; have y0 := hk6.cell y0 id; have y1 := hk6.cell y1 id; have lx := World.block_lt_of_cell? w6 _ x0; have ly := World.block_lt_of_cell? w6 _ y0; clear hk6 T5)))
      | (go_at_call 42; ((with_reducible refine (wanted_nil _).mono ?_); rintro e w3 ⟨rfl, hk3⟩; have H3 : Hid (Kept No w w3) := (H2.out.alloc _).trans hk3; have x0 : w3.cell? ⟨w2.heap.size, 0, none⟩ = some (.int .u8 0) := hk3.cell (by simp) id; have x1 : w3.cell? ⟨w2.heap.size, 1, none⟩ = some (.int .u64 0) := hk3.cell (by simp) id; clear hk3))
      | (go_at_call 38; go_loud ((with_reducible refine (pnew_1 _).mono ?_); rintro e w4 ⟨px, rfl, hP, hk4, hpx⟩; have H4 : Hid (Kept No w w4) := (H3.out.alloc _).trans hk4; have T5 := next_asks_none now (.slice A held.length c) held F w4 px 1 (show Hid _ from hP) (HL.out.new H4.out); have x0 := hk4.cell (((Kept.refl No w3).alloc _).cell x0 id) id; have x1 := hk4.cell (((Kept.refl No w3).alloc _).cell x1 id) id; have y0 : w4.cell? ⟨w3.heap.size, 0, none⟩ = some (.int .u8 0) := hk4.cell (by simp) id; have y1 : w4.cell? ⟨w3.heap.size, 1, none⟩ = some (.int .u64 0) := hk4.cell (by simp) id; clear hP hk4 hpx))
      | (go_at_call 40; ((with_reducible refine (asked_nil _).mono ?_); rintro e w7 ⟨rfl, rfl⟩))
      | (go_at_call 37; ((with_reducible refine (HA _).mono ?_); rintro e w8 ⟨rfl, hk8⟩)))
    go_ret
    exact ⟨rfl, ((H4.out.trans H6.out).alloc _).trans hk8⟩
end Go.Proofs.Ytfnecdkfhackkaa
