/- The reference of the package matrix, third part: Gone. -/
import Derived.Test.YtfnecdkfhackkaaR18b
set_option linter.unusedVariables false
set_option linter.unusedSimpArgs false
namespace Go.Proofs.Ytfnecdkfhackkaa
open Go.RowKit

theorem row_at {w : World} {F : Nat → Prop} {A : Option Addr} {n c p : Nat} {rows : List Row} {r : Row} (h : Sl kRow w F (.slice A n c) rows) (hr : rows[p]? = some r) :
    ∃ b off Ad cd Ah ch, A = some ⟨b, off, none⟩ ∧ b < w.heap.size ∧ w.cell? ⟨b, off + p * 4, none⟩ = some (.int .u64 r.inst) ∧ w.cell? ⟨b, off + p * 4 + 1, none⟩ = some (.slice Ad r.done.length cd) ∧ w.cell? ⟨b, off + p * 4 + 2, none⟩ = some (.slice Ah r.held.length ch) ∧
      w.cell? ⟨b, off + p * 4 + 3, none⟩ = some (.bool r.gone) ∧ kRow.K w F r [.int .u64 r.inst, .slice Ad r.done.length cd, .slice Ah r.held.length ch, .bool r.gone] := by
  rcases Sl.cases (by decide) h with ⟨rfl, _⟩ | ⟨h0, h1, b, off, c', hv, h2, h3, hF, hb, hc⟩
  · simp at hr
  · simp only [Value.slice.injEq] at hv
    obtain ⟨cs, hK, hcell⟩ := hc p r hr
    have hK' := hK
    obtain ⟨vd, vh, rfl, h4, h5, h6⟩ := hK
    obtain ⟨Ad, cd, rfl, _⟩ := h5.slice
    obtain ⟨Ah, ch, rfl, _⟩ := h6.slice
    exact ⟨b, off, Ad, cd, Ah, ch, hv.1, hb, hcell 0 _ rfl, hcell 1 _ rfl, hcell 2 _ rfl, hcell 3 _ rfl, hK'⟩
/-- The two boxes that a method of the reference begins with. -/
theorem two_boxes (w : World) (A : Option Addr) (n c : Nat) : Hid (∀ W, Kept No ((w.alloc (.cells #[.slice A n c] 48)).alloc (.cells #[.slice none 0 0] 48)) W →
    Kept No w W ∧ W.cell? ⟨w.heap.size, 0, none⟩ = some (.slice A n c) ∧ W.cell? ⟨w.heap.size + 1, 0, none⟩ = some (.slice none 0 0) ∧ W.frozen? ⟨w.heap.size + 1, 0, none⟩ = false ∧ w.heap.size + 1 < W.heap.size) := by
  intro W hW
  have h1 := heap_alloc_new (w.alloc (.cells #[.slice A n c] 48)) (.cells #[.slice none 0 0] 48)
  simp only [World.size_alloc] at h1
  have h2 : ((w.alloc (.cells #[.slice A n c] 48)).alloc (.cells #[.slice none 0 0] 48)).heap[w.heap.size]? = some (.cells #[.slice A n c] 48 (0, 0)) := (Below.heap_alloc _ _ _ (by simp)).trans (heap_alloc_new w _)
  refine ⟨(((Kept.refl No w).alloc _).alloc _).trans hW, hW.cell (by rw [cell_of_row _ _ 0 _ _ _ h2]; rfl) id, hW.cell (by rw [cell_of_row _ _ 0 _ _ _ h1]; rfl) id, (hW.frozen_eq (lt_of_heap h1) id).trans (frozen_of_row _ _ 0 _ _ h1), Nat.lt_of_lt_of_le (lt_of_heap h1) hW.size⟩
theorem put_box {w0 w : World} {b : Nat} (v : Value) (hk : Kept No w0 w) (hb : w0.heap.size ≤ b) : Kept No w0 (w.setCell ⟨b, 0, none⟩ v) := hk.setCell (p := ⟨b, 0, none⟩) (fun h => absurd h (by simp only; omega)) _

theorem box_sl {α : Type} {d : Kd α} {w wx w2 : World} {F : Nat → Prop} {v u : Value} {xs : List α} {B : Nat} (h : Sl d w2 (fun k => F k ∨ New wx w2 k) v xs) (hF : ∀ k, F k → k < w.heap.size) (h1 : w.heap.size ≤ B) (h2 : B < wx.heap.size) :
    Sl d (w2.setCell ⟨B, 0, none⟩ u) (fun k => F k ∨ New w (w2.setCell ⟨B, 0, none⟩ u) k) v xs := by
  have hk : Kept (fun k => k = B) w2 (w2.setCell ⟨B, 0, none⟩ u) := (Kept.refl (fun k => k = B) w2).setCell (p := ⟨B, 0, none⟩) (fun _ => rfl) _
  refine (h.kept hk (fun k hk _ e => ?_)).mono (fun k hk hlt => hk.elim .inl fun e => .inr ⟨by have := e.1; omega, hlt⟩)
  have e : k = B := e
  rcases hk with hk | hk
  · have := hF k hk; omega
  · have := hk.1; omega
theorem kgone {w w1 : World} {F : Nat → Prop} {r : Row} {a b c : Value} {g g' : Bool} (h : kRow.K w F r [a, b, c, .bool g]) (hk : Kept No w w1) : kRow.K w1 F { r with gone := g' } [a, b, c, .bool g'] := by
  obtain ⟨vd, vh, e, h0, h1, h2⟩ := h
  simp only [List.cons.injEq] at e
  obtain ⟨rfl, rfl, rfl, _⟩ := e
  exact ⟨_, _, rfl, h0, h1.new hk, h2.new hk⟩
set_option maxRecDepth 20000 in
set_option maxHeartbeats 1000000 in
theorem gone18_any (A : Option Addr) (n c : Nat) (p : Int) (rows : List Row) (w : World) (F : Nat → Prop) (h : Sl kRow w F (.slice A n c) rows) (hF : ∀ k, F k → k < w.heap.size) (hn : rows.length = n) (hn64 : n ≤ 64) :
    Calls Try.prog 29 #[.agg #[.slice A n c], .int .i64 p] w fun e w' => ∃ A' c', e = .returned (.tuple #[.agg #[.slice A' n c'], .int .i64 (gone1n rows p)]) ∧ Sl kRow w' (fun k => F k ∨ New w w' k) (.slice A' n c') (gone1 rows p) ∧ Kept No w w' := by
  have H2 := two_boxes w A n c
  have hof := fun W => r18of_any A n c p W
  have HS : Hid (Sl kRow w F (.slice A n c) rows ∧ (∀ k, F k → k < w.heap.size) ∧ rows.length = n) := ⟨h, hF, hn⟩
  cases hr : rowAt rows p with
  | none =>
    have hb : (decide (0 ≤ p) && decide (p < n)) = false := by
      unfold rowAt at hr
      by_cases hp : p < 0
      · simp; omega
      · rw [if_neg hp] at hr
        have := List.getElem?_eq_none_iff.1 hr
        simp; omega
    rw [gone1, gone1n, hr]
    rw [hb] at hof
    clear h hF hn hr hb
    go_enter Try.func29, Try.ntmps29
    go_wp2_with (go_at_call 31; ((with_reducible refine (hof _).mono ?_); rintro e w1 ⟨rfl, hk1⟩; obtain ⟨k1, c0, c1, f1, l1⟩ := H2.out w1 hk1; have HK : Hid (Kept No w w1) := k1; clear k1 hk1))
    refine bodyPost_ret (res_cell_tmp (by rfl) _ _ (w.heap.size + 1) 0 (by rfl) [.slice A n c] agg48 (one_cell (World.cell?_setCell_same _ _ _ c1))) rfl ?_
    refine ⟨A, c, rfl, ?_, put_box _ HK.out (by omega)⟩
    exact (HS.out.1.new (put_box _ HK.out (by omega))).mono fun k hk _ => .inl hk
  | some r =>
    have hpp : 0 ≤ p ∧ rows[p.toNat]? = some r := by
      unfold rowAt at hr
      by_cases hp : p < 0
      · simp [hp] at hr
      · rw [if_neg hp] at hr; exact ⟨by omega, hr⟩
    obtain ⟨q, rfl⟩ : ∃ q : Nat, p = q := ⟨p.toNat, by omega⟩
    have hrq : rows[q]? = some r := by simpa using hpp.2
    have hqn : q < n := by rw [← hn]; exact (List.getElem?_eq_some_iff.1 hrq).1
    have hb : (decide (0 ≤ (q : Int)) && decide ((q : Int) < n)) = true := by simp; omega
    rw [hb] at hof
    rw [gone1, gone1n, hr]
    obtain ⟨b, off, Ad, cd, Ah, ch, rfl, hbl, e0, e1, e2, e3, hK⟩ := row_at h hrq
    have HE : Hid (∀ W, Kept No w W → W.cell? ⟨b, off + q * 4, none⟩ = some (.int .u64 r.inst) ∧ W.cell? ⟨b, off + q * 4 + 1, none⟩ = some (.slice Ad r.done.length cd) ∧ W.cell? ⟨b, off + q * 4 + 2, none⟩ = some (.slice Ah r.held.length ch) ∧ W.cell? ⟨b, off + q * 4 + 3, none⟩ = some (.bool r.gone)) := fun W hW => ⟨hW.cell e0 id, hW.cell e1 id, hW.cell e2 id, hW.cell e3 id⟩
    have HK : Hid (kRow.K w F r [.int .u64 r.inst, .slice Ad r.done.length cd, .slice Ah r.held.length ch, .bool r.gone]) := hK
    have HR : Hid (rows[q]? = some r) := hrq
    clear e0 e1 e2 e3 hK h hF hn hr hb hpp hrq
    cases hg : r.gone with
    | true =>
      have hsame : rows.set (q : Int).toNat { r with gone := true } = rows := by
        have e : ({ r with gone := true } : Row) = r := by rw [← hg]
        rw [e, Int.toNat_natCast]
        obtain ⟨hl, he⟩ := List.getElem?_eq_some_iff.1 HR.out
        rw [← he]
        exact List.set_getElem_self hl
      rw [hg] at HE
      simp only [hsame, hg, if_true]
      clear hsame hg HK
      go_enter Try.func29, Try.ntmps29
      go_wp2_with (go_at_call 31; ((with_reducible refine (hof _).mono ?_); rintro e w1 ⟨rfl, hk1⟩; obtain ⟨k1, c0, c1, f1, l1⟩ := H2.out w1 hk1; obtain ⟨e0, e1, e2, e3⟩ := HE.out w1 k1; have HK : Hid (Kept No w w1) := k1; have hblw := World.block_lt_of_cell? w1 _ e0; have l0 : w.heap.size < w1.heap.size := (by omega); clear k1 hk1))
      refine bodyPost_ret (res_cell_tmp (by rfl) _ _ (w.heap.size + 1) 0 (by rfl) [.slice (some ⟨b, off, none⟩) n c] agg48 (one_cell (World.cell?_setCell_same _ _ _ c1))) rfl ?_
      refine ⟨_, c, rfl, ?_, put_box _ HK.out (by omega)⟩
      exact (HS.out.1.new (put_box _ HK.out (by omega))).mono fun k hk _ => .inl hk
    | false =>
      rw [hg] at HE
      simp only [hg, Int.toNat_natCast, Bool.false_eq_true, if_false]
      clear hg
      obtain ⟨X, hX⟩ : ∃ X, X = w.heap.size + 1 := ⟨_, rfl⟩
      go_enter Try.func29, Try.ntmps29
      go_wp2_with (first | (go_at_call 53; go_loud ((with_reducible refine (with_any _ n c q rows { r with gone := true } _ _ (w1.alloc (.cells #[.int .u64 r.inst, .slice Ad r.done.length cd, .slice Ah r.held.length ch, .bool true] 54)) F (HS.out.1.new (HK1.out.1.alloc _)) (fun k hk => Nat.lt_of_lt_of_le (HS.out.2.1 k hk) (HK1.out.1.alloc _).size) HS.out.2.2 hn64 hqn (kgone (HK.out) (HK1.out.1.alloc _))).mono ?_); rintro e w2 ⟨A2, n2, rfl, hs2, hk2⟩; obtain ⟨_, _, g1, g2, _⟩ := H2.out w2 ((HK1.out.2.alloc _).trans hk2); have H3 : Hid (Sl kRow w2 (fun k => F k ∨ New (w1.alloc (.cells #[.int .u64 r.inst, .slice Ad r.done.length cd, .slice Ah r.held.length ch, .bool true] 54)) w2 k) (.slice A2 n n2) (rows.set q { r with gone := true }) ∧ Kept No w w2) := ⟨hs2, (HK1.out.1.alloc _).trans hk2⟩; clear hs2 hk2)) | (go_at_call 31; ((with_reducible refine (hof _).mono ?_); rintro e w1 ⟨rfl, hk1⟩; obtain ⟨k1, c0, c1, f1, l1⟩ := H2.out w1 hk1; obtain ⟨e0, e1, e2, e3⟩ := HE.out w1 k1; have HK1 : Hid (Kept No w w1 ∧ Kept No ((w.alloc (.cells #[.slice (some ⟨b, off, none⟩) n c] 48)).alloc (.cells #[.slice none 0 0] 48)) w1) := ⟨k1, hk1⟩; have hblw := World.block_lt_of_cell? w1 _ e0; have l0 : w.heap.size < w1.heap.size := (by omega); clear k1 hk1)))
      refine bodyPost_ret (res_cell_tmp (by rfl) _ _ (w.heap.size + 1) 0 (by rfl) [.slice A2 n n2] agg48 (one_cell (World.cell?_setCell_same _ _ _ g1))) rfl ?_
      exact ⟨A2, n2, rfl, box_sl H3.out.1 HS.out.2.1 (by omega) (by simp; omega), put_box _ H3.out.2 (by omega)⟩
end Go.Proofs.Ytfnecdkfhackkaa
