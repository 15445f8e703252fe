/- The reference of the package matrix, fourth part: Tell. -/
import Derived.Test.YtfnecdkfhackkaaR18c
set_option linter.unusedVariables false
set_option linter.unusedSimpArgs false
namespace Go.Proofs.Ytfnecdkfhackkaa
open Go.RowKit

theorem gone_lit {R : List Row} {p : Int} (h : rowAt R p = none) (i : Int) (d e : List Int) : tell R p i d e = R := by
  unfold tell; unfold rowAt at h
  split
  · rfl
  · rename_i hp; rw [if_neg hp] at h; rw [h]
/-- A box of four cells, in whatever world behind. -/
theorem box4 {w w1 W : World} {a b c d : Value} {G : Nat → Prop} (hW : Kept G (w1.alloc (.cells #[a, b, c, d] 54)) W) (hG : ¬ G w1.heap.size) : (W.cell? ⟨w1.heap.size, 0, none⟩ = some a ∧ W.cell? ⟨w1.heap.size, 1, none⟩ = some b ∧ W.cell? ⟨w1.heap.size, 2, none⟩ = some c ∧ W.cell? ⟨w1.heap.size, 3, none⟩ = some d) ∧ ∀ j, W.frozen? ⟨w1.heap.size, j, none⟩ = false := by
  have h := heap_alloc_new w1 (.cells #[a, b, c, d] 54)
  refine ⟨⟨?_, ?_, ?_, ?_⟩, fun j => (hW.frozen_eq (lt_of_heap h) hG).trans (frozen_of_row _ _ j _ _ h)⟩ <;>
    refine hW.cell ?_ hG <;> rw [cell_of_row _ _ _ _ _ _ h] <;> rfl

/-- What two stores into a row's box leave, and what it leads to. -/
theorem tellbox {w w1 w2 w3 : World} {F : Nat → Prop} {r : Row} {vd vh v5 v6 c0 : Value} {M inst : Int} {done held : List Int} (hK : kRow.K w F r [.int .u64 r.inst, vd, vh, .bool r.gone]) (hF : ∀ k, F k → k < w.heap.size) (hk1 : Kept No w w1)
    (hM : max r.inst inst = M) (hi : InR .u64 inst) (h5 : TW (kI .u64) 26 w2 No v5 (vrise r.done done)) (f5 : Fresh (w1.alloc (.cells #[c0, vd, vh, .bool r.gone] 54)) v5) (k2 : Kept No (w1.alloc (.cells #[c0, vd, vh, .bool r.gone] 54)) w2)
    (h6 : TW (kI .u64) 26 w3 No v6 (vrise r.held held)) (f6 : Fresh (w2.setCell ⟨w1.heap.size, 1, none⟩ v5) v6) (k3 : Kept No (w2.setCell ⟨w1.heap.size, 1, none⟩ v5) w3) :
    Kept No w (w3.setCell ⟨w1.heap.size, 2, none⟩ v6) ∧ kRow.K (w3.setCell ⟨w1.heap.size, 2, none⟩ v6) (fun k => F k ∨ (w1.heap.size < k ∧ k < (w3.setCell ⟨w1.heap.size, 2, none⟩ v6).heap.size)) (tellRow r inst done held) [.int .u64 M, v5, v6, .bool r.gone] := by
  have a1 : Kept No w (w1.alloc (.cells #[c0, vd, vh, .bool r.gone] 54)) := hk1.alloc _
  have s1 : w.heap.size ≤ w1.heap.size := hk1.size
  have s2 := k2.size
  simp only [World.size_alloc] at s2
  have a2 : Kept No w (w2.setCell ⟨w1.heap.size, 1, none⟩ v5) := (a1.trans k2).setCell (p := ⟨w1.heap.size, 1, none⟩) (fun h => absurd h (by simp only; omega)) _
  have a3 : Kept No w (w3.setCell ⟨w1.heap.size, 2, none⟩ v6) := (a2.trans k3).setCell (p := ⟨w1.heap.size, 2, none⟩) (fun h => absurd h (by simp only; omega)) _
  refine ⟨a3, v5, v6, by rw [← hM]; rfl, ?_, ?_, ?_⟩
  · have := (kRow_sl hK).2.2
    simp only [inr_u64, tellRow] at this hi ⊢
    omega
  · have q1 : Kept (fun k => k = w1.heap.size) w2 (w2.setCell ⟨w1.heap.size, 1, none⟩ v5) := (Kept.refl (fun k => k = w1.heap.size) w2).setCell (p := ⟨w1.heap.size, 1, none⟩) (fun _ => rfl) _
    have q2 : Kept (fun k => k = w1.heap.size) w2 (w3.setCell ⟨w1.heap.size, 2, none⟩ v6) := (q1.trans k3.no).setCell (p := ⟨w1.heap.size, 2, none⟩) (fun _ => rfl) _
    have hb : ∀ k, v5.ownBlock = some k → w1.heap.size + 1 ≤ k := fun k hk => by have := f5 k hk; simpa using this
    refine (h5.sl.kept q2 (fun k hk _ e => ?_)).mono (fun k hk hlt => .inr ⟨?_, hlt⟩)
    · have e : k = w1.heap.size := e
      rcases hk with hk | hk
      · have := hb k hk; omega
      · exact hk
    · rcases hk with hk | hk
      · have := hb k hk; omega
      · exact hk.elim
  · have q1 : Kept (fun k => k = w1.heap.size) w3 (w3.setCell ⟨w1.heap.size, 2, none⟩ v6) := (Kept.refl (fun k => k = w1.heap.size) w3).setCell (p := ⟨w1.heap.size, 2, none⟩) (fun _ => rfl) _
    have hb : ∀ k, v6.ownBlock = some k → w1.heap.size + 1 ≤ k := fun k hk => by have := f6 k hk; simp only [World.size_setCell] at this; omega
    refine (h6.sl.kept q1 (fun k hk _ e => ?_)).mono (fun k hk hlt => .inr ⟨?_, hlt⟩)
    · have e : k = w1.heap.size := e
      rcases hk with hk | hk
      · have := hb k hk; omega
      · exact hk
    · rcases hk with hk | hk
      · have := hb k hk; omega
      · exact hk.elim

theorem box_sl2 {α : Type} {d : Kd α} {w w2 : World} {F S : Nat → Prop} {v u : Value} {xs : List α} {B : Nat} (h : Sl d w2 S v xs) (hS : ∀ k, S k → k < w2.heap.size → k ≠ B ∧ (F k ∨ w.heap.size ≤ k)) :
    Sl d (w2.setCell ⟨B, 0, none⟩ u) (fun k => F k ∨ New w (w2.setCell ⟨B, 0, none⟩ u) k) v xs := by
  have hk : Kept (fun k => k = B) w2 (w2.setCell ⟨B, 0, none⟩ u) := (Kept.refl (fun k => k = B) w2).setCell (p := ⟨B, 0, none⟩) (fun _ => rfl) _
  exact (h.kept hk (fun k hk hlt => (hS k hk hlt).1)).mono (fun k hk hlt => (hS k hk (by simpa using hlt)).2.elim .inl fun e => .inr ⟨e, hlt⟩)
theorem tell_blocks {w w4 W4 : World} {F : Nat → Prop} {s1 k : Nat} (hF : ∀ k, F k → k < w.heap.size) (h1 : w.heap.size + 1 < s1) (h2 : s1 < W4.heap.size) (hk : (F k ∨ (s1 < k ∧ k < W4.heap.size)) ∨ New W4 w4 k) : k ≠ w.heap.size + 1 ∧ (F k ∨ w.heap.size ≤ k) := by
  rcases hk with (hk | hk) | hk
  · have := hF k hk; exact ⟨by omega, .inl hk⟩
  · exact ⟨by omega, .inr (by omega)⟩
  · have := hk.1; exact ⟨by omega, .inr (by omega)⟩
theorem with_any2 (A : Option Addr) (n c p : Nat) (rows : List Row) (r : Row) (M : Int) (g : Bool) (vd vh : Value) (w : World) (F : Nat → Prop) (h : Sl kRow w F (.slice A n c) rows) (hF : ∀ k, F k → k < w.heap.size) (hn : rows.length = n) (hn64 : n ≤ 64) (hp : p < n)
    (hx : kRow.K w F r [.int .u64 M, vd, vh, .bool g]) :
    Calls Try.prog 53 #[.agg #[.slice A n c], .int .i64 p, .agg #[.int .u64 M, vd, vh, .bool g]] w fun e w' => ∃ A' c', e = .returned (.agg #[.slice A' n c']) ∧ Sl kRow w' (fun k => F k ∨ New w w' k) (.slice A' n c') (rows.set p r) ∧ Kept No w w' := by
  have e : M = r.inst ∧ g = r.gone := by
    obtain ⟨v1, v2, e, _⟩ := hx
    simp only [List.cons.injEq, Value.int.injEq, Value.bool.injEq] at e
    exact ⟨e.1.2, e.2.2.2.1⟩
  obtain ⟨rfl, rfl⟩ := e
  exact with_any A n c p rows r vd vh w F h hF hn hn64 hp hx
theorem put1 {w w1 w2 : World} {o : Obj} {v : Value} {j : Nat} (h : Kept No w w1) (h2 : Kept No (w1.alloc o) w2) : Kept No w (w2.setCell ⟨w1.heap.size, j, none⟩ v) :=
  ((h.alloc o).trans h2).setCell (p := ⟨w1.heap.size, j, none⟩) (fun e => absurd e (by have := h.size; simp only; omega)) _
theorem put2 {wA w1 w2 w3 : World} {o : Obj} {v : Value} {j : Nat} (h : Kept No wA w1) (h2 : Kept No (w1.alloc o) w2) (h3 : Kept No (w2.setCell ⟨w1.heap.size, j, none⟩ v) w3) (hl : wA.heap.size ≤ w1.heap.size) : Kept No wA w3 := (put1 h h2).trans h3
theorem fltn {w w' : World} {F : Nat → Prop} {s : Nat} (hF : ∀ k, F k → k < w.heap.size) (hk : Kept No w w') : ∀ k, (F k ∨ (s < k ∧ k < w'.heap.size)) → k < w'.heap.size := fun k h => h.elim (fun h => Nat.lt_of_lt_of_le (hF k h) hk.size) (fun h => h.2)
set_option maxRecDepth 20000 in
set_option maxHeartbeats 2000000 in
theorem tell18_any (A : Option Addr) (n c : Nat) (p inst : Int) (vdone vheld : Value) (done held : List Int) (rows : List Row) (w : World) (F F2 : Nat → Prop) (h : Sl kRow w F (.slice A n c) rows) (hF : ∀ k, F k → k < w.heap.size) (hn : rows.length = n) (hn64 : n ≤ 64) (hw : Wide n rows)
    (hi : InR .u64 inst) (hd : Sl (kI .u64) w F2 vdone done) (hh : Sl (kI .u64) w F2 vheld held) :
    Calls Try.prog 30 #[.agg #[.slice A n c], .int .i64 p, .int .u64 inst, vdone, vheld] w fun e w' => ∃ A' c', e = .returned (.agg #[.slice A' n c']) ∧ Sl kRow w' (fun k => F k ∨ New w w' k) (.slice A' n c') (tell rows p inst done held) ∧ Kept No w w' := by
  have H2 := two_boxes w A n c
  have hof := fun W => r18of_any A n c p W
  obtain ⟨B1, m1, d1, rfl⟩ : ∃ A n c, vdone = .slice A n c := by obtain ⟨A, c, h, _⟩ := hd.slice; exact ⟨A, _, c, h⟩
  obtain ⟨B2, m2, d2, rfl⟩ : ∃ A n c, vheld = .slice A n c := by obtain ⟨A, c, h, _⟩ := hh.slice; exact ⟨A, _, c, h⟩
  have HS : Hid (Sl kRow w F (.slice A n c) rows ∧ (∀ k, F k → k < w.heap.size) ∧ rows.length = n ∧ InR .u64 inst ∧ Sl (kI .u64) w F2 (.slice B1 m1 d1) done ∧ Sl (kI .u64) w F2 (.slice B2 m2 d2) held) := ⟨h, hF, hn, hi, hd, hh⟩
  clear hd hh hi
  cases hr : rowAt rows p with
  | none =>
    have hb : (decide (0 ≤ p) && decide (p < n)) = false := by
      unfold rowAt at hr
      by_cases hp : p < 0
      · simp; omega
      · rw [if_neg hp] at hr
        have := List.getElem?_eq_none_iff.1 hr
        simp; omega
    rw [gone_lit hr]
    rw [hb] at hof
    clear h hF hn hr hb hw
    go_enter Try.func30, Try.ntmps30
    go_wp2_with (go_at_call 31; ((with_reducible refine (hof _).mono ?_); rintro e w1 ⟨rfl, hk1⟩; obtain ⟨k1, c0, c1, f1, l1⟩ := H2.out w1 hk1; have HK : Hid (Kept No w w1) := k1; clear k1 hk1))
    refine bodyPost_ret (res_cell (by rfl) _ _ (w.heap.size + 1) 0 (by rfl) [.slice A n c] agg48 (one_cell (World.cell?_setCell_same _ _ _ c1))) rfl ?_
    refine ⟨A, c, rfl, ?_, put_box _ HK.out (by omega)⟩
    exact (HS.out.1.new (put_box _ HK.out (by omega))).mono fun k hk _ => .inl hk
  | some r =>
    have hpp : 0 ≤ p ∧ rows[p.toNat]? = some r := by
      unfold rowAt at hr
      by_cases hp : p < 0
      · simp [hp] at hr
      · rw [if_neg hp] at hr; exact ⟨by omega, hr⟩
    obtain ⟨q, rfl⟩ : ∃ q : Nat, p = q := ⟨p.toNat, by omega⟩
    have hrq : rows[q]? = some r := by simpa using hpp.2
    have hqn : q < n := by rw [← hn]; exact (List.getElem?_eq_some_iff.1 hrq).1
    have hb : (decide (0 ≤ (q : Int)) && decide ((q : Int) < n)) = true := by simp; omega
    rw [hb] at hof
    have ht : tell rows q inst done held = rows.set q (tellRow r inst done held) := by simp [tell, hrq]; omega
    rw [ht]
    have hwr := hw r (List.mem_of_getElem? hrq)
    have HWR : Hid (r.done.length ≤ 64 ∧ r.held.length ≤ 64) := ⟨by omega, by omega⟩
    obtain ⟨b, off, Ad, cd, Ah, ch, rfl, hbl, e0, e1, e2, e3, hK⟩ := row_at h hrq
    have HE : Hid (∀ W, Kept No w W → W.cell? ⟨b, off + q * 4, none⟩ = some (.int .u64 r.inst) ∧ W.cell? ⟨b, off + q * 4 + 1, none⟩ = some (.slice Ad r.done.length cd) ∧ W.cell? ⟨b, off + q * 4 + 2, none⟩ = some (.slice Ah r.held.length ch) ∧ W.cell? ⟨b, off + q * 4 + 3, none⟩ = some (.bool r.gone)) := fun W hW => ⟨hW.cell e0 id, hW.cell e1 id, hW.cell e2 id, hW.cell e3 id⟩
    have HK : Hid (kRow.K w F r [.int .u64 r.inst, .slice Ad r.done.length cd, .slice Ah r.held.length ch, .bool r.gone]) := hK
    clear e0 e1 e2 e3 hK h hF hn hr hb hpp hrq ht hwr hw
    by_cases hii : r.inst < inst
    · have HM : Hid (max r.inst inst = inst) := by show _ = _; omega
      go_enter Try.func30, Try.ntmps30
      go_wp2_with (first
        | (go_at_call 31; ((with_reducible refine (hof _).mono ?_); rintro e w1 ⟨rfl, hk1⟩; obtain ⟨k1, c0, c1, f1, l1⟩ := H2.out w1 hk1; obtain ⟨e0, e1, e2, e3⟩ := HE.out w1 k1; have HK1 : Hid (Kept No w w1 ∧ Kept No ((w.alloc (.cells #[.slice (some ⟨b, off, none⟩) n c] 48)).alloc (.cells #[.slice none 0 0] 48)) w1) := ⟨k1, hk1⟩; have hblw := World.block_lt_of_cell? w1 _ e0; have l0 : w.heap.size < w1.heap.size := (by omega); clear k1 hk1))
        | (go_at_call 54; first
          | ((with_reducible refine (r18rise_any _ _ r.done done (w1.alloc (.cells #[.int .u64 inst, .slice Ad r.done.length cd, .slice Ah r.held.length ch, .bool r.gone] 54)) (fun _ => True) (((kRow_sl HK.out).1.new (HK1.out.1.alloc _)).mono fun _ _ _ => trivial) ((HS.out.2.2.2.2.1.new (HK1.out.1.alloc _)).mono fun _ _ _ => trivial) HWR.out.1).mono ?_); rintro e w2 ⟨v5, rfl, ht5, hf5, hk2⟩; have H5 : Hid (TW (kI .u64) 26 w2 No v5 (vrise r.done done) ∧ Fresh (w1.alloc (.cells #[.int .u64 inst, .slice Ad r.done.length cd, .slice Ah r.held.length ch, .bool r.gone] 54)) v5 ∧ Kept No (w1.alloc (.cells #[.int .u64 inst, .slice Ad r.done.length cd, .slice Ah r.held.length ch, .bool r.gone] 54)) w2) := ⟨ht5, hf5, hk2⟩; obtain ⟨⟨x0, x1, x2, x3⟩, xf⟩ := box4 (w := w) hk2 (fun h => h); have xf1 := xf 1; have xf2 := xf 2; obtain ⟨A5, n5, c5, e5⟩ : ∃ A n c, v5 = .slice A n c := (by obtain ⟨A, c, h, _⟩ := ht5.slice; exact ⟨A, _, c, h⟩); subst e5; have l2 : w1.heap.size < w2.heap.size := World.block_lt_of_cell? w2 _ x0; clear ht5 hf5 hk2 xf)
          | ((with_reducible refine (r18rise_any _ _ r.held held (w2.setCell ⟨w1.heap.size, 1, none⟩ (.slice A5 n5 c5)) (fun _ => True) (((kRow_sl HK.out).2.1.new (put1 HK1.out.1 H5.out.2.2)).mono fun _ _ _ => trivial) ((HS.out.2.2.2.2.2.new (put1 HK1.out.1 H5.out.2.2)).mono fun _ _ _ => trivial) HWR.out.2).mono ?_); rintro e w3 ⟨v6, rfl, ht6, hf6, hk3⟩; have H6 : Hid (TW (kI .u64) 26 w3 No v6 (vrise r.held held) ∧ Fresh (w2.setCell ⟨w1.heap.size, 1, none⟩ (.slice A5 n5 c5)) v6 ∧ Kept No (w2.setCell ⟨w1.heap.size, 1, none⟩ (.slice A5 n5 c5)) w3) := ⟨ht6, hf6, hk3⟩; have y0 : w3.cell? ⟨w1.heap.size, 0, none⟩ = some (.int .u64 inst) := hk3.cell (by rw [World.cell?_setCell_other _ _ _ _ (by simp)]; exact x0) id; have y1 : w3.cell? ⟨w1.heap.size, 1, none⟩ = some (.slice A5 n5 c5) := hk3.cell (World.cell?_setCell_same _ _ _ x1) id; have y2 : w3.cell? ⟨w1.heap.size, 2, none⟩ = some (.slice Ah r.held.length ch) := hk3.cell (by rw [World.cell?_setCell_other _ _ _ _ (by simp)]; exact x2) id; have y3 : w3.cell? ⟨w1.heap.size, 3, none⟩ = some (.bool r.gone) := hk3.cell (by rw [World.cell?_setCell_other _ _ _ _ (by simp)]; exact x3) id; have yf2 : w3.frozen? ⟨w1.heap.size, 2, none⟩ = false := (hk3.frozen_eq (by simpa using l2) id).trans (by rw [World.frozen?_setCell]; exact xf2); obtain ⟨A6, n6, c6, e6⟩ : ∃ A n c, v6 = .slice A n c := (by obtain ⟨A, c, h, _⟩ := ht6.slice; exact ⟨A, _, c, h⟩); subst e6; obtain ⟨_, g0, _, _, _⟩ := H2.out w3 (put2 HK1.out.2 H5.out.2.2 hk3 (by simp only [World.size_alloc]; omega)); have l3 : w1.heap.size < w3.heap.size := World.block_lt_of_cell? w3 _ y0; have l4 : w.heap.size < w3.heap.size := (by omega); have l5 : ¬ w.heap.size = w1.heap.size := (by omega); have l6 : ¬ w1.heap.size = w.heap.size := (by omega); clear ht6 hf6 hk3))
        | (go_at_call 53; go_loud ((with_reducible refine (with_any2 _ n c q rows (tellRow r inst done held) _ _ _ _ (w3.setCell ⟨w1.heap.size, 2, none⟩ (.slice A6 n6 c6)) (fun k => F k ∨ (w1.heap.size < k ∧ k < (w3.setCell ⟨w1.heap.size, 2, none⟩ (.slice A6 n6 c6)).heap.size)) ((HS.out.1.new (tellbox HK.out HS.out.2.1 HK1.out.1 HM.out HS.out.2.2.2.1 H5.out.1 H5.out.2.1 H5.out.2.2 H6.out.1 H6.out.2.1 H6.out.2.2).1).mono fun _ h _ => .inl h) (fltn HS.out.2.1 (tellbox HK.out HS.out.2.1 HK1.out.1 HM.out HS.out.2.2.2.1 H5.out.1 H5.out.2.1 H5.out.2.2 H6.out.1 H6.out.2.1 H6.out.2.2).1) HS.out.2.2.1 hn64 hqn (tellbox HK.out HS.out.2.1 HK1.out.1 HM.out HS.out.2.2.2.1 H5.out.1 H5.out.2.1 H5.out.2.2 H6.out.1 H6.out.2.1 H6.out.2.2).2).mono ?_); rintro e w4 ⟨A2, n2, rfl, hs2, hk2⟩; have hk4 : Kept No w (w3.setCell ⟨w1.heap.size, 2, none⟩ (.slice A6 n6 c6)) := (tellbox HK.out HS.out.2.1 HK1.out.1 HM.out HS.out.2.2.2.1 H5.out.1 H5.out.2.1 H5.out.2.2 H6.out.1 H6.out.2.1 H6.out.2.2).1; obtain ⟨_, _, g1, g2, _⟩ := H2.out w4 (((put2 HK1.out.2 H5.out.2.2 H6.out.2.2 (by simp only [World.size_alloc]; omega)).setCell (p := ⟨w1.heap.size, 2, none⟩) (fun e => absurd e (by simp only [World.size_alloc]; omega)) _).trans hk2); have H7 : Hid (Sl kRow w4 (fun k => (F k ∨ (w1.heap.size < k ∧ k < (w3.setCell ⟨w1.heap.size, 2, none⟩ (.slice A6 n6 c6)).heap.size)) ∨ New (w3.setCell ⟨w1.heap.size, 2, none⟩ (.slice A6 n6 c6)) w4 k) (.slice A2 n n2) (rows.set q (tellRow r inst done held)) ∧ Kept No w w4) := ⟨hs2, hk4.trans hk2⟩; clear hs2 hk2 hk4)))
      refine bodyPost_ret (res_cell (by rfl) _ _ (w.heap.size + 1) 0 (by rfl) [.slice A2 n n2] agg48 (one_cell (World.cell?_setCell_same _ _ _ g1))) rfl ?_
      exact ⟨A2, n2, rfl, box_sl2 H7.out.1 (fun k hk _ => tell_blocks HS.out.2.1 l1 (by have := H6.out.2.2.size; simp only [World.size_setCell] at this ⊢; omega) hk), put_box _ H7.out.2 (by omega)⟩
    · have HM : Hid (max r.inst inst = r.inst) := by show _ = _; omega
      go_enter Try.func30, Try.ntmps30
      go_wp2_with (first
        | (go_at_call 31; ((with_reducible refine (hof _).mono ?_); rintro e w1 ⟨rfl, hk1⟩; obtain ⟨k1, c0, c1, f1, l1⟩ := H2.out w1 hk1; obtain ⟨e0, e1, e2, e3⟩ := HE.out w1 k1; have HK1 : Hid (Kept No w w1 ∧ Kept No ((w.alloc (.cells #[.slice (some ⟨b, off, none⟩) n c] 48)).alloc (.cells #[.slice none 0 0] 48)) w1) := ⟨k1, hk1⟩; have hblw := World.block_lt_of_cell? w1 _ e0; have l0 : w.heap.size < w1.heap.size := (by omega); clear k1 hk1))
        | (go_at_call 54; first
          | ((with_reducible refine (r18rise_any _ _ r.done done (w1.alloc (.cells #[.int .u64 r.inst, .slice Ad r.done.length cd, .slice Ah r.held.length ch, .bool r.gone] 54)) (fun _ => True) (((kRow_sl HK.out).1.new (HK1.out.1.alloc _)).mono fun _ _ _ => trivial) ((HS.out.2.2.2.2.1.new (HK1.out.1.alloc _)).mono fun _ _ _ => trivial) HWR.out.1).mono ?_); rintro e w2 ⟨v5, rfl, ht5, hf5, hk2⟩; have H5 : Hid (TW (kI .u64) 26 w2 No v5 (vrise r.done done) ∧ Fresh (w1.alloc (.cells #[.int .u64 r.inst, .slice Ad r.done.length cd, .slice Ah r.held.length ch, .bool r.gone] 54)) v5 ∧ Kept No (w1.alloc (.cells #[.int .u64 r.inst, .slice Ad r.done.length cd, .slice Ah r.held.length ch, .bool r.gone] 54)) w2) := ⟨ht5, hf5, hk2⟩; obtain ⟨⟨x0, x1, x2, x3⟩, xf⟩ := box4 (w := w) hk2 (fun h => h); have xf1 := xf 1; have xf2 := xf 2; obtain ⟨A5, n5, c5, e5⟩ : ∃ A n c, v5 = .slice A n c := (by obtain ⟨A, c, h, _⟩ := ht5.slice; exact ⟨A, _, c, h⟩); subst e5; have l2 : w1.heap.size < w2.heap.size := World.block_lt_of_cell? w2 _ x0; clear ht5 hf5 hk2 xf)
          | ((with_reducible refine (r18rise_any _ _ r.held held (w2.setCell ⟨w1.heap.size, 1, none⟩ (.slice A5 n5 c5)) (fun _ => True) (((kRow_sl HK.out).2.1.new (put1 HK1.out.1 H5.out.2.2)).mono fun _ _ _ => trivial) ((HS.out.2.2.2.2.2.new (put1 HK1.out.1 H5.out.2.2)).mono fun _ _ _ => trivial) HWR.out.2).mono ?_); rintro e w3 ⟨v6, rfl, ht6, hf6, hk3⟩; have H6 : Hid (TW (kI .u64) 26 w3 No v6 (vrise r.held held) ∧ Fresh (w2.setCell ⟨w1.heap.size, 1, none⟩ (.slice A5 n5 c5)) v6 ∧ Kept No (w2.setCell ⟨w1.heap.size, 1, none⟩ (.slice A5 n5 c5)) w3) := ⟨ht6, hf6, hk3⟩; have y0 : w3.cell? ⟨w1.heap.size, 0, none⟩ = some (.int .u64 r.inst) := hk3.cell (by rw [World.cell?_setCell_other _ _ _ _ (by simp)]; exact x0) id; have y1 : w3.cell? ⟨w1.heap.size, 1, none⟩ = some (.slice A5 n5 c5) := hk3.cell (World.cell?_setCell_same _ _ _ x1) id; have y2 : w3.cell? ⟨w1.heap.size, 2, none⟩ = some (.slice Ah r.held.length ch) := hk3.cell (by rw [World.cell?_setCell_other _ _ _ _ (by simp)]; exact x2) id; have y3 : w3.cell? ⟨w1.heap.size, 3, none⟩ = some (.bool r.gone) := hk3.cell (by rw [World.cell?_setCell_other _ _ _ _ (by simp)]; exact x3) id; have yf2 : w3.frozen? ⟨w1.heap.size, 2, none⟩ = false := (hk3.frozen_eq (by simpa using l2) id).trans (by rw [World.frozen?_setCell]; exact xf2); obtain ⟨A6, n6, c6, e6⟩ : ∃ A n c, v6 = .slice A n c := (by obtain ⟨A, c, h, _⟩ := ht6.slice; exact ⟨A, _, c, h⟩); subst e6; obtain ⟨_, g0, _, _, _⟩ := H2.out w3 (put2 HK1.out.2 H5.out.2.2 hk3 (by simp only [World.size_alloc]; omega)); have l3 : w1.heap.size < w3.heap.size := World.block_lt_of_cell? w3 _ y0; have l4 : w.heap.size < w3.heap.size := (by omega); have l5 : ¬ w.heap.size = w1.heap.size := (by omega); have l6 : ¬ w1.heap.size = w.heap.size := (by omega); clear ht6 hf6 hk3))
        | (go_at_call 53; go_loud ((with_reducible refine (with_any2 _ n c q rows (tellRow r inst done held) _ _ _ _ (w3.setCell ⟨w1.heap.size, 2, none⟩ (.slice A6 n6 c6)) (fun k => F k ∨ (w1.heap.size < k ∧ k < (w3.setCell ⟨w1.heap.size, 2, none⟩ (.slice A6 n6 c6)).heap.size)) ((HS.out.1.new (tellbox HK.out HS.out.2.1 HK1.out.1 HM.out HS.out.2.2.2.1 H5.out.1 H5.out.2.1 H5.out.2.2 H6.out.1 H6.out.2.1 H6.out.2.2).1).mono fun _ h _ => .inl h) (fltn HS.out.2.1 (tellbox HK.out HS.out.2.1 HK1.out.1 HM.out HS.out.2.2.2.1 H5.out.1 H5.out.2.1 H5.out.2.2 H6.out.1 H6.out.2.1 H6.out.2.2).1) HS.out.2.2.1 hn64 hqn (tellbox HK.out HS.out.2.1 HK1.out.1 HM.out HS.out.2.2.2.1 H5.out.1 H5.out.2.1 H5.out.2.2 H6.out.1 H6.out.2.1 H6.out.2.2).2).mono ?_); rintro e w4 ⟨A2, n2, rfl, hs2, hk2⟩; have hk4 : Kept No w (w3.setCell ⟨w1.heap.size, 2, none⟩ (.slice A6 n6 c6)) := (tellbox HK.out HS.out.2.1 HK1.out.1 HM.out HS.out.2.2.2.1 H5.out.1 H5.out.2.1 H5.out.2.2 H6.out.1 H6.out.2.1 H6.out.2.2).1; obtain ⟨_, _, g1, g2, _⟩ := H2.out w4 (((put2 HK1.out.2 H5.out.2.2 H6.out.2.2 (by simp only [World.size_alloc]; omega)).setCell (p := ⟨w1.heap.size, 2, none⟩) (fun e => absurd e (by simp only [World.size_alloc]; omega)) _).trans hk2); have H7 : Hid (Sl kRow w4 (fun k => (F k ∨ (w1.heap.size < k ∧ k < (w3.setCell ⟨w1.heap.size, 2, none⟩ (.slice A6 n6 c6)).heap.size)) ∨ New (w3.setCell ⟨w1.heap.size, 2, none⟩ (.slice A6 n6 c6)) w4 k) (.slice A2 n n2) (rows.set q (tellRow r inst done held)) ∧ Kept No w w4) := ⟨hs2, hk4.trans hk2⟩; clear hs2 hk2 hk4)))
      refine bodyPost_ret (res_cell (by rfl) _ _ (w.heap.size + 1) 0 (by rfl) [.slice A2 n n2] agg48 (one_cell (World.cell?_setCell_same _ _ _ g1))) rfl ?_
      exact ⟨A2, n2, rfl, box_sl2 H7.out.1 (fun k hk _ => tell_blocks HS.out.2.1 l1 (by have := H6.out.2.2.size; simp only [World.size_setCell] at this ⊢; omega) hk), put_box _ H7.out.2 (by omega)⟩
end Go.Proofs.Ytfnecdkfhackkaa
