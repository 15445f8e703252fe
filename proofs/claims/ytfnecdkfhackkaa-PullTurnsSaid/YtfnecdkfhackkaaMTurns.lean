/- MatrixTurns: the walk. -/
import Derived.Test.YtfnecdkfhackkaaL18a
set_option linter.unusedVariables false
set_option linter.unusedSimpArgs false
namespace Go.Proofs.Ytfnecdkfhackkaa
open Go.RowKit

theorem deeds_at {w : World} {v : Value} {l : List Deed} (hl : Sl kDeed w (Old w) v l) : ∃ A c, v = .slice A l.length c ∧ l.length ≤ 9223372036854775807 ∧
    ∀ j x, l[j]? = some x → ∃ bl off vd vh, A = some ⟨bl, off, none⟩ ∧ bl < w.heap.size ∧ (∀ i u, [.bool x.gone, .int .i64 x.p, .int .u64 x.inst, vd, vh][i]? = some u → w.cell? ⟨bl, off + j * 5 + i, none⟩ = some u) ∧
      InR .i64 x.p ∧ InR .u64 x.inst ∧ Sl (kI .u64) w (Old w) vd x.done ∧ Sl (kI .u64) w (Old w) vh x.held := by
  rcases Sl.cases (by decide) hl with ⟨rfl, A, c, rfl⟩ | ⟨h0, h1, b, off, c, rfl, h2, h3, hF, hb, hc⟩
  · exact ⟨A, c, rfl, by simp, fun j x h => by simp at h⟩
  · refine ⟨_, c, rfl, by simp only [maxLen] at h1; omega, fun j x hx => ?_⟩
    obtain ⟨cs, ⟨vd, vh, rfl, h4, h5, h6, h7⟩, h8⟩ := hc j x hx
    exact ⟨b, off, vd, vh, rfl, hb, h8, h4, h5, h6, h7⟩
theorem new_row {w w' : World} {g e : Nat} {z : Array Value} {cs : List Value} (hg : w.heap[g]? = some (.cells z e (0, 0))) (hz : z.size = cs.length) (h : w' = w.setRow g (z.toList.take 0 ++ cs ++ z.toList.drop (0 + cs.length)).toArray) :
    w'.heap[g]? = some (.cells cs.toArray e (0, 0)) ∧ (∀ k, k ≠ g → w'.heap[k]? = w.heap[k]?) ∧ ∀ F : Nat → Prop, F g → Kept F w w' := by
  subst h
  have e1 : z.toList.drop (0 + cs.length) = [] := List.drop_eq_nil_of_le (by simp; omega)
  rw [e1]
  simp only [List.take_zero, List.nil_append, List.append_nil]
  exact ⟨setRow_heap _ _ _ _ _ _ hg, fun k hk => setRow_other _ _ _ _ (fun e => hk e), fun F hF => (Kept.refl F w).setRow (fun _ => hF) _⟩
def z29 : Array Value := #[.bool false, .int .i64 0, .int .u64 0, .slice none 0 0, .slice none 0 0]

theorem two_start {w w1 w2 : World} {ba rba bb rbb n : Nat} {rows : List Row} {Ga Gb : Nat → Prop} (h1 : MatAt w1 ba rba n rows Ga) (k1 : Kept No w w1) (l1 : w.heap.size ≤ rba)
    (h2 : MatAt w2 bb rbb n rows Gb) (k2 : Kept No w1 w2) (l2 : w1.heap.size ≤ rbb) (l3 : w1.heap.size ≤ bb) (l4 : ∀ k, Gb k → w1.heap.size ≤ k) : Two w w2 ba rba bb rbb n rows rows Ga Gb := by
  have := h1.lt
  have := k1.size
  exact ⟨h1.new k2, h2, fun h => by have := h1.glt _ h; omega, fun h => by have := l4 _ h; omega, by omega, by omega, by omega, k1.trans k2, l1, by omega⟩

theorem foldl_snoc {α β : Type} (f : β → α → β) (s : β) (l : List α) (k : Nat) (x : α) (h : l[k]? = some x) : (l.take (k + 1)).foldl f s = f ((l.take k).foldl f s) x := by
  rw [take_snoc _ _ _ h, List.foldl_append]; rfl

set_option maxHeartbeats 4000000 in
set_option maxRecDepth 20000 in
theorem turns_any (n : Int) (v : Value) (l : List Deed) (w : World) (hl : Sl kDeed w (Old w) v l) : Calls Try.prog 3 #[.int .i64 n, v] w fun e w' => e = .returned (.bool true) ∧ Kept No w w' := by
  obtain ⟨A, c, rfl, hlm, hat⟩ := deeds_at hl
  have HA := fun W => awake18_any W
  by_cases hbig : 100 < l.length
  · have h1 : (100 : Int) < (l.length : Int) := by omega
    clear hl hat
    go_enter Try.func3, Try.ntmps3
    go_wp2_with (go_at_call 12; ((with_reducible refine (HA _).mono ?_); rintro e w' ⟨rfl, hk⟩))
    go_ret
    exact ⟨rfl, hk⟩
  · have h1 : ¬ (100 : Int) < (l.length : Int) := by omega
    by_cases hn : 20 < n
    · clear hl hat
      go_enter Try.func3, Try.ntmps3
      go_wp2_with (go_at_call 12; ((with_reducible refine (HA _).mono ?_); rintro e w' ⟨rfl, hk⟩))
      go_ret
      exact ⟨rfl, hk⟩
    · obtain ⟨L, hL⟩ : ∃ L, L = l.length := ⟨_, rfl⟩
      rw [← hL] at hlm h1 hbig ⊢
      have HL : Hid (L = l.length) := hL
      have HAT : Hid (∀ j x, l[j]? = some x → ∃ bl off vd vh, A = some ⟨bl, off, none⟩ ∧ bl < w.heap.size ∧ (∀ i u, [.bool x.gone, .int .i64 x.p, .int .u64 x.inst, vd, vh][i]? = some u → w.cell? ⟨bl, off + j * 5 + i, none⟩ = some u) ∧
        InR .i64 x.p ∧ InR .u64 x.inst ∧ Sl (kI .u64) w (Old w) vd x.done ∧ Sl (kI .u64) w (Old w) vh x.held) := hat
      clear hL hat hl
      obtain ⟨R0, hR0⟩ : ∃ R, R = List.replicate (max 1 (min n 64)).toNat (zrow (max 1 (min n 64)).toNat) := ⟨_, rfl⟩
      obtain ⟨N, hN⟩ : ∃ N, N = (max 1 (min n 64)).toNat := ⟨_, rfl⟩
      have hnew := fun W => new_any n W
      rw [← hN] at hnew hR0
      rw [← hR0] at hnew
      clear hN hR0
      go_enter Try.func3, Try.ntmps3
      go_wp2_with (go_at_call 13; first
        | ((with_reducible refine (hnew w).mono ?_); rintro e w1 ⟨ba, rba, Ga, rfl, hma, hka, hra, hba, hGa⟩; have H1 : Hid (MatAt w1 ba rba N R0 Ga ∧ Kept No w w1 ∧ w.heap.size ≤ rba) := ⟨hma, hka, hra⟩; clear hma hka hra hba hGa)
        | ((with_reducible refine (hnew w1).mono ?_); rintro e w2 ⟨bb, rbb, Gb, rfl, hmb, hkb, hrb, hbb, hGb⟩; have H2 : Hid (Two w w2 ba rba bb rbb N R0 R0 Ga Gb) := two_start H1.out.1 H1.out.2.1 H1.out.2.2 hmb hkb hrb hbb hGb; clear hmb hkb hrb hbb hGb))
      clear hnew
      go_loopw [7] (fun i wr => ∃ k : Nat, k ≤ L ∧ i = .int .i64 k ∧ ∃ Ga Gb, Two w wr ba rba bb rbb N ((l.take k).foldl deed R0) ((l.reverse.take k).foldl deed R0) Ga Gb) (fun i _ => L - (intOf i).toNat)
      case atStart => exact ⟨0, Nat.zero_le _, rfl, _, _, H2.out⟩
      case round =>
        obtain ⟨k, hk, rfl, Ga1, Gb1, htwo⟩ := hrel
        by_cases hlt : k < L
        · obtain ⟨⟨xg, xp, xi, xd, xh⟩, hx⟩ : ∃ x, l[k]? = some x := ⟨_, List.getElem?_eq_getElem (by rw [← HL.out]; exact hlt)⟩
          obtain ⟨j, hj⟩ : ∃ j, L = k + j + 1 := ⟨L - k - 1, by omega⟩
          obtain ⟨⟨yg, yp, yi, yd, yh⟩, hy⟩ : ∃ y, l[j]? = some y := ⟨_, List.getElem?_eq_getElem (by rw [← HL.out]; omega)⟩
          have hy2 : l.reverse[k]? = some ⟨yg, yp, yi, yd, yh⟩ := by
            rw [List.getElem?_reverse (by rw [← HL.out]; exact hlt), ← HL.out, ← hy]
            congr 1; omega
          have sx := foldl_snoc deed R0 l k _ hx
          have sy := foldl_snoc deed R0 l.reverse k _ hy2
          obtain ⟨ra, hra⟩ : ∃ ra, ra = (l.take k).foldl deed R0 := ⟨_, rfl⟩
          obtain ⟨rb, hrb⟩ : ∃ rb, rb = (l.reverse.take k).foldl deed R0 := ⟨_, rfl⟩
          rw [← hra] at sx htwo
          rw [← hrb] at sy htwo
          obtain ⟨bl, off, vd, vh, rfl, hbl, hcx, px, ix, hdx, hhx⟩ := HAT.out k _ hx
          obtain ⟨bl', off', wd, wh, hAA, _, hcy, py, iy, hdy, hhy⟩ := HAT.out j _ hy
          simp only [Option.some.injEq, Addr.mk.injEq, and_true] at hAA
          obtain ⟨rfl, rfl⟩ := hAA
          simp only at hcx hcy hdx hhx hdy hhy px ix py iy
          obtain ⟨A0, c0, rfl, _⟩ := hdx.slice
          obtain ⟨A1, c1, rfl, _⟩ := hhx.slice
          obtain ⟨A2, c2, rfl, _⟩ := hdy.slice
          obtain ⟨A3, c3, rfl, _⟩ := hhy.slice
          have hkw := htwo.k
          have hrlt := htwo.a.lt.2
          have hrlt2 := htwo.b.lt.2
          have HC : Hid ((∀ i u, [.bool xg, .int .i64 xp, .int .u64 xi, .slice A0 xd.length c0, .slice A1 xh.length c1][i]? = some u → wr.drew.cell? ⟨bl, off + k * 5 + i, none⟩ = some u) ∧
            (∀ i u, [.bool yg, .int .i64 yp, .int .u64 yi, .slice A2 yd.length c2, .slice A3 yh.length c3][i]? = some u → wr.drew.cell? ⟨bl, off + j * 5 + i, none⟩ = some u)) :=
            ⟨fun i u hu => hkw.cell (hcx i u hu) id, fun i u hu => hkw.cell (hcy i u hu) id⟩
          have HS : Hid (InR .i64 xp ∧ InR .u64 xi ∧ Sl (kI .u64) w (Old w) (.slice A0 xd.length c0) xd ∧ Sl (kI .u64) w (Old w) (.slice A1 xh.length c1) xh ∧
            InR .i64 yp ∧ InR .u64 yi ∧ Sl (kI .u64) w (Old w) (.slice A2 yd.length c2) yd ∧ Sl (kI .u64) w (Old w) (.slice A3 yh.length c3) yh) := ⟨px, ix, hdx, hhx, py, iy, hdy, hhy⟩
          have HT : Hid (Two w wr ba rba bb rbb N ra rb Ga1 Gb1 ∧ (l.take (k + 1)).foldl deed R0 = deed ra ⟨xg, xp, xi, xd, xh⟩ ∧ (l.reverse.take (k + 1)).foldl deed R0 = deed rb ⟨yg, yp, yi, yd, yh⟩) := ⟨htwo, sx, sy⟩
          have hblr : bl < wr.heap.size := Nat.lt_of_lt_of_le hbl hkw.size
          have hw1 : IntKind.i64.wrap ((L : Int) - 1) = (L : Int) - 1 := by rw [IntKind.wrap_i64]; omega
          have hw2 : IntKind.i64.wrap ((L : Int) - 1 - k) = (j : Int) := by rw [IntKind.wrap_i64]; omega
          have hjL : j < L := by omega
          clear hj
          clear hkw hcx hcy px ix hdx hhx py iy hdy hhy htwo sx sy hra hrb hx hy hy2
          go_wp2
          refine wp_region_plan (fun b => wr.heap.size ≤ b) (.pur 0 (.pur 1 (.pur 2 (.pur 4 (.pur 5 (.pur 6 (.pur 7 (.pur 8 (.pur 9 (.pur 10 (.rd 3 (.rd 11 (.fork 12 13 (.grow 13 (.grow 14 (.grow 15 .fin))) (.grow 12 (.grow 14 (.grow 15 .fin)))))))))))))))) [] mixed (by kernel_rfl) ?_
          repeat ((first | refine pl_pur (by simp only [List.getD_cons_succ, List.getD_cons_zero]; rfl) _ (by rfl) (fun W => by go_simp; with_reducible rfl) ?_ | refine pl_rd (by simp only [List.getD_cons_succ, List.getD_cons_zero]; rfl) _ (by rfl) (fun W hW => by have hc := kcell hW; clear hW; go_simp; with_reducible rfl) ?_); simp only [Act.put, List.setIfInBounds_toArray, List.set_cons_zero, List.set_cons_succ])
          clear hw1 hw2
          refine pl_load_whole (by simp only [List.getD_cons_succ, List.getD_cons_zero]; rfl) (by rfl) (.tmp 30) 29 (by rfl) bl (off + k * 5) (by rfl) _ agg29 HC.out.1 (by omega) ?_
          simp only [Act.put, List.setIfInBounds_toArray, List.set_cons_zero, List.set_cons_succ]
          refine pl_load_whole (by simp only [List.getD_cons_succ, List.getD_cons_zero]; rfl) (by rfl) (.tmp 38) 29 (by rfl) bl (off + j * 5) (by rfl) _ agg29 HC.out.2 (by omega) ?_
          simp only [Act.put, List.setIfInBounds_toArray, List.set_cons_zero, List.set_cons_succ]
          have hz1 : ((wr.alloc (.cells z29 29)).alloc (.cells z29 29)).drew.heap[wr.heap.size]? = some (.cells z29 29 (0, 0)) := (Below.heap_alloc _ _ _ (by simp)).trans (heap_alloc_new wr _)
          have hz2 : ((wr.alloc (.cells z29 29)).alloc (.cells z29 29)).drew.heap[wr.heap.size + 1]? = some (.cells z29 29 (0, 0)) := by
            have := heap_alloc_new (wr.alloc (.cells z29 29)) (.cells z29 29)
            rw [World.size_alloc] at this
            exact this
          have hkz : Kept No wr ((wr.alloc (.cells z29 29)).alloc (.cells z29 29)).drew := (((Kept.refl No wr).alloc _).alloc _).drew
          have HZ : Hid (((wr.alloc (.cells z29 29)).alloc (.cells z29 29)).drew.heap[wr.heap.size]? = some (.cells z29 29 (0, 0)) ∧ ((wr.alloc (.cells z29 29)).alloc (.cells z29 29)).drew.heap[wr.heap.size + 1]? = some (.cells z29 29 (0, 0)) ∧ Kept No wr ((wr.alloc (.cells z29 29)).alloc (.cells z29 29)).drew) := ⟨hz1, hz2, hkz⟩
          clear hz1 hz2 hkz
          refine pl_fork (by simp only [List.getD_cons_succ, List.getD_cons_zero]; rfl) (by simp only [List.getD_cons_succ, List.getD_cons_zero]; rfl) ?_ ?_
          · go_wp2
            refine GPost.mk ((Kept.refl _ _).alloc _) ?_
            refine pl_grow (by simp only [List.getD_cons_succ, List.getD_cons_zero]; rfl) ?_
            go_wp2
            refine GPost.mk ((Kept.refl _ _).alloc _) ?_
            refine pl_grow (by simp only [List.getD_cons_succ, List.getD_cons_zero]; rfl) ?_
            refine wpList_store_whole (by rfl) (.tmp 8) (.tmp 31) 29 (by rfl) wr.heap.size 0 29 (by rfl) _ (by rfl) agg29 z29 HZ.out.1 (by simp [z29]) (by simp [Value.oneCell']) ?_
            intro w3 HW3
            have n1 := new_row (z := z29) HZ.out.1 (by rfl) HW3.out
            refine GPost.mk (n1.2.2 _ (by omega)) ?_
            refine pl_grow (by simp only [List.getD_cons_succ, List.getD_cons_zero]; rfl) ?_
            refine wpList_store_whole (by rfl) (.tmp 9) (.tmp 39) 29 (by rfl) (wr.heap.size + 1) 0 29 (by rfl) _ (by rfl) agg29 z29 ((n1.2.1 _ (by omega)).trans HZ.out.2.1) (by simp [z29]) (by simp [Value.oneCell']) ?_
            intro w4 HW4
            have n2 := new_row (z := z29) ((n1.2.1 _ (by omega)).trans HZ.out.2.1) (by rfl) HW4.out
            refine GPost.mk (n2.2.2 _ (by omega)) (pl_fin ?_)
            have r1 := (n2.2.1 wr.heap.size (by omega)).trans n1.1
            have r2 := n2.1
            have r3 : Kept No wr w4 := (HZ.out.2.2.trans2 (n1.2.2 (fun b => wr.heap.size ≤ b) (by omega)) (fun i hi h => by omega)).trans2 (n2.2.2 (fun b => wr.heap.size ≤ b) (by omega)) (fun i hi h => by have := HZ.out.2.2.size; omega)
            have hx1 : (rba < wr.heap.size ∧ rbb < wr.heap.size) ∧ rba < (wr.heap.size + 1) ∧ rbb < (wr.heap.size + 1) := by omega
            have HB : Hid (w4.heap[wr.heap.size]? = some (.cells [Value.bool xg, .int .i64 xp, .int .u64 xi, .slice A0 xd.length c0, .slice A1 xh.length c1].toArray 29 (0, 0)) ∧ w4.heap[(wr.heap.size + 1)]? = some (.cells [Value.bool yg, .int .i64 yp, .int .u64 yi, .slice A2 yd.length c2, .slice A3 yh.length c3].toArray 29 (0, 0)) ∧ Kept No wr w4 ∧ (rba < wr.heap.size ∧ rbb < wr.heap.size) ∧ rba < (wr.heap.size + 1) ∧ rbb < (wr.heap.size + 1)) := ⟨r1, r2, r3, hx1⟩
            clear n1 n2 r1 r2 r3 hx1 HZ HW3 HW4
            obtain ⟨b1, hb1⟩ : ∃ b, b = wr.heap.size := ⟨_, rfl⟩
            obtain ⟨b2, hb2⟩ : ∃ b, b = (wr.heap.size + 1) := ⟨_, rfl⟩
            rw [← hb2, ← hb1]
            rw [← hb2, ← hb1] at HB
            have hx1 := HB.out.2.2.2
            have r1 := HB.out.1
            have r2 := HB.out.2.1
            clear hb1 hb2
            have HD : Hid (∀ W, Kept (fun k => k = rba ∨ k = rbb) w4 W → W.cell? ⟨b1, 0, none⟩ = some (.bool xg) ∧ W.cell? ⟨b1, 1, none⟩ = some (.int .i64 xp) ∧ W.cell? ⟨b1, 2, none⟩ = some (.int .u64 xi) ∧ W.cell? ⟨b1, 3, none⟩ = some (.slice A0 xd.length c0) ∧ W.cell? ⟨b1, 4, none⟩ = some (.slice A1 xh.length c1) ∧
                W.cell? ⟨b2, 0, none⟩ = some (.bool yg) ∧ W.cell? ⟨b2, 1, none⟩ = some (.int .i64 yp) ∧ W.cell? ⟨b2, 2, none⟩ = some (.int .u64 yi) ∧ W.cell? ⟨b2, 3, none⟩ = some (.slice A2 yd.length c2) ∧ W.cell? ⟨b2, 4, none⟩ = some (.slice A3 yh.length c3)) := by
              intro W hW
              have f1 : ∀ i u, [Value.bool xg, .int .i64 xp, .int .u64 xi, .slice A0 xd.length c0, .slice A1 xh.length c1][i]? = some u → W.cell? ⟨b1, i, none⟩ = some u := fun i u hu => hW.cell (by rw [cell_of_row w4 b1 i _ _ _ r1]; simpa using hu) (fun h => by have h : b1 = rba ∨ b1 = rbb := h; omega)
              have f2 : ∀ i u, [Value.bool yg, .int .i64 yp, .int .u64 yi, .slice A2 yd.length c2, .slice A3 yh.length c3][i]? = some u → W.cell? ⟨b2, i, none⟩ = some u := fun i u hu => hW.cell (by rw [cell_of_row w4 b2 i _ _ _ r2]; simpa using hu) (fun h => by have h : b2 = rba ∨ b2 = rbb := h; omega)
              exact ⟨f1 0 _ rfl, f1 1 _ rfl, f1 2 _ rfl, f1 3 _ rfl, f1 4 _ rfl, f2 0 _ rfl, f2 1 _ rfl, f2 2 _ rfl, f2 3 _ rfl, f2 4 _ rfl⟩
            have HT4 : Hid (Two w w4 ba rba bb rbb N ra rb Ga1 Gb1) := HT.out.1.new HB.out.2.2.1
            have hra4 : rba < w4.heap.size ∧ rbb < w4.heap.size := ⟨HT4.out.a.lt.2, HT4.out.b.lt.2⟩
            clear r1 r2 HB
            obtain ⟨d0, d1, d2, d3, d4, e0, e1, e2, e3, e4⟩ := HD.out w4 (Kept.refl _ _)
            by_cases hgx : 100 < xd.length ∨ 100 < xh.length
            · go_wp2_with (first | (go_at_call 14; ((with_reducible refine (great_yes _ hgx).mono ?_); rintro e w5 ⟨rfl, hk5⟩)) | (go_at_call 12; ((with_reducible refine (HA _).mono ?_); rintro e w6 ⟨rfl, hk6⟩)))
              go_ret
              exact ⟨rfl, (HT4.out.k.trans hk5).trans hk6⟩
            · by_cases hgy : 100 < yd.length ∨ 100 < yh.length
              · go_wp2_with (first | (go_at_call 14; first | ((with_reducible refine (great_no _ hgx).mono ?_); rintro e w5 ⟨rfl, hk5⟩; clear d0 d1 d2 d3 d4 e0 e1 e2 e3 e4; obtain ⟨d0, d1, d2, d3, d4, e0, e1, e2, e3, e4⟩ := HD.out _ hk5.no) | ((with_reducible refine (great_yes _ hgy).mono ?_); rintro e w6 ⟨rfl, hk6⟩)) | (go_at_call 12; ((with_reducible refine (HA _).mono ?_); rintro e w7 ⟨rfl, hk7⟩)))
                go_ret
                exact ⟨rfl, ((HT4.out.k.trans hk5).trans hk6).trans hk7⟩
              · have hxl : xd.length ≤ 100 ∧ xh.length ≤ 100 := by omega
                have hyl : yd.length ≤ 100 ∧ yh.length ≤ 100 := by omega
                cases xg with
                | false =>
                  cases yg with
                  | false =>
                    go_wp2_with (first | (go_at_call 14; first | ((with_reducible refine (great_no _ hgx).mono ?_); rintro e w5 ⟨rfl, hk5⟩; clear d0 d1 d2 d3 d4 e0 e1 e2 e3 e4; obtain ⟨d0, d1, d2, d3, d4, e0, e1, e2, e3, e4⟩ := HD.out _ hk5.no) | ((with_reducible refine (great_no _ hgy).mono ?_); rintro e w6 ⟨rfl, hk6⟩; have HK6 : Hid (Kept No w4 w6) := hk5.trans hk6; have hs6 := HK6.out.size; clear hk5 hk6; clear d0 d1 d2 d3 d4 e0 e1 e2 e3 e4; obtain ⟨d0, d1, d2, d3, d4, e0, e1, e2, e3, e4⟩ := HD.out _ HK6.out.no)) | (first | (go_at_call 16; ((with_reducible refine (two_tell _ (HT4.out.new HK6.out) xp xi _ _ xd xh HS.out.2.1 HS.out.2.2.1 HS.out.2.2.2.1 hxl.1 hxl.2).mono ?_); rintro e w7 ⟨rfl, h7, hk7⟩; have HK7 : Hid (Kept (fun k => k = rba) w6 w7) := hk7; have H7 : Hid (∃ G, Two w w7 ba rba bb rbb N (deed ra ⟨false, xp, xi, xd, xh⟩) rb G Gb1) := h7; clear h7 hk7; have hs7 := HK7.out.size; clear d0 d1 d2 d3 d4 e0 e1 e2 e3 e4; obtain ⟨d0, d1, d2, d3, d4, e0, e1, e2, e3, e4⟩ := HD.out _ (HK6.out.no.trans (HK7.out.mono fun _ _ h => .inl h)))) | (go_at_call 16; ((with_reducible refine (two_tell _ H7.out.choose_spec.swap yp yi _ _ yd yh HS.out.2.2.2.2.2.1 HS.out.2.2.2.2.2.2.1 HS.out.2.2.2.2.2.2.2 hyl.1 hyl.2).mono ?_); rintro e w8 ⟨rfl, ⟨G8, h8⟩, hk8⟩))))
                    go_roundw
                    case rel => exact ⟨k + 1, by omega, by go_num, _, _, by rw [HT.out.2.1, HT.out.2.2]; exact h8.swap⟩
                    case measure => simp [intOf]; omega
                  | true =>
                    go_wp2_with (first | (go_at_call 14; first | ((with_reducible refine (great_no _ hgx).mono ?_); rintro e w5 ⟨rfl, hk5⟩; clear d0 d1 d2 d3 d4 e0 e1 e2 e3 e4; obtain ⟨d0, d1, d2, d3, d4, e0, e1, e2, e3, e4⟩ := HD.out _ hk5.no) | ((with_reducible refine (great_no _ hgy).mono ?_); rintro e w6 ⟨rfl, hk6⟩; have HK6 : Hid (Kept No w4 w6) := hk5.trans hk6; have hs6 := HK6.out.size; clear hk5 hk6; clear d0 d1 d2 d3 d4 e0 e1 e2 e3 e4; obtain ⟨d0, d1, d2, d3, d4, e0, e1, e2, e3, e4⟩ := HD.out _ HK6.out.no)) | (go_at_call 16; ((with_reducible refine (two_tell _ (HT4.out.new HK6.out) xp xi _ _ xd xh HS.out.2.1 HS.out.2.2.1 HS.out.2.2.2.1 hxl.1 hxl.2).mono ?_); rintro e w7 ⟨rfl, h7, hk7⟩; have HK7 : Hid (Kept (fun k => k = rba) w6 w7) := hk7; have H7 : Hid (∃ G, Two w w7 ba rba bb rbb N (deed ra ⟨false, xp, xi, xd, xh⟩) rb G Gb1) := h7; clear h7 hk7; have hs7 := HK7.out.size; clear d0 d1 d2 d3 d4 e0 e1 e2 e3 e4; obtain ⟨d0, d1, d2, d3, d4, e0, e1, e2, e3, e4⟩ := HD.out _ (HK6.out.no.trans (HK7.out.mono fun _ _ h => .inl h)))) | (go_at_call 15; ((with_reducible refine (two_gone _ (H7.out.choose_spec.swap.new ((Kept.refl _ _).alloc _)) yp (by simp) HS.out.2.2.2.2.1 (by omega)).mono ?_); rintro e w8 ⟨rfl, h8, hk8⟩)))
                    go_roundw
                    case rel => exact ⟨k + 1, by omega, by go_num, _, _, by rw [HT.out.2.1, HT.out.2.2]; exact h8.swap⟩
                    case measure => simp [intOf]; omega
                | true =>
                  cases yg with
                  | false =>
                    go_wp2_with (first | (go_at_call 14; first | ((with_reducible refine (great_no _ hgx).mono ?_); rintro e w5 ⟨rfl, hk5⟩; clear d0 d1 d2 d3 d4 e0 e1 e2 e3 e4; obtain ⟨d0, d1, d2, d3, d4, e0, e1, e2, e3, e4⟩ := HD.out _ hk5.no) | ((with_reducible refine (great_no _ hgy).mono ?_); rintro e w6 ⟨rfl, hk6⟩; have HK6 : Hid (Kept No w4 w6) := hk5.trans hk6; have hs6 := HK6.out.size; clear hk5 hk6; clear d0 d1 d2 d3 d4 e0 e1 e2 e3 e4; obtain ⟨d0, d1, d2, d3, d4, e0, e1, e2, e3, e4⟩ := HD.out _ HK6.out.no)) | (go_at_call 15; ((with_reducible refine (two_gone _ ((HT4.out.new HK6.out).new ((Kept.refl _ _).alloc _)) xp (by simp) HS.out.1 (by omega)).mono ?_); rintro e w7 ⟨rfl, h7, hk7⟩; have HK7 : Hid (Kept (fun k => k = rba) w6 w7) := (((Kept.refl _ w6).alloc _).trans hk7); have H7 : Hid (∃ G, Two w w7 ba rba bb rbb N (deed ra ⟨true, xp, xi, xd, xh⟩) rb G Gb1) := ⟨_, h7⟩; clear h7 hk7; have hs7 := HK7.out.size; clear d0 d1 d2 d3 d4 e0 e1 e2 e3 e4; obtain ⟨d0, d1, d2, d3, d4, e0, e1, e2, e3, e4⟩ := HD.out _ (HK6.out.no.trans (HK7.out.mono fun _ _ h => .inl h)))) | (go_at_call 16; ((with_reducible refine (two_tell _ H7.out.choose_spec.swap yp yi _ _ yd yh HS.out.2.2.2.2.2.1 HS.out.2.2.2.2.2.2.1 HS.out.2.2.2.2.2.2.2 hyl.1 hyl.2).mono ?_); rintro e w8 ⟨rfl, ⟨G8, h8⟩, hk8⟩)))
                    go_roundw
                    case rel => exact ⟨k + 1, by omega, by go_num, _, _, by rw [HT.out.2.1, HT.out.2.2]; exact h8.swap⟩
                    case measure => simp [intOf]; omega
                  | true =>
                    go_wp2_with (first | (go_at_call 14; first | ((with_reducible refine (great_no _ hgx).mono ?_); rintro e w5 ⟨rfl, hk5⟩; clear d0 d1 d2 d3 d4 e0 e1 e2 e3 e4; obtain ⟨d0, d1, d2, d3, d4, e0, e1, e2, e3, e4⟩ := HD.out _ hk5.no) | ((with_reducible refine (great_no _ hgy).mono ?_); rintro e w6 ⟨rfl, hk6⟩; have HK6 : Hid (Kept No w4 w6) := hk5.trans hk6; have hs6 := HK6.out.size; clear hk5 hk6; clear d0 d1 d2 d3 d4 e0 e1 e2 e3 e4; obtain ⟨d0, d1, d2, d3, d4, e0, e1, e2, e3, e4⟩ := HD.out _ HK6.out.no)) | (first | (go_at_call 15; ((with_reducible refine (two_gone _ ((HT4.out.new HK6.out).new ((Kept.refl _ _).alloc _)) xp (by simp) HS.out.1 (by omega)).mono ?_); rintro e w7 ⟨rfl, h7, hk7⟩; have HK7 : Hid (Kept (fun k => k = rba) w6 w7) := (((Kept.refl _ w6).alloc _).trans hk7); have H7 : Hid (∃ G, Two w w7 ba rba bb rbb N (deed ra ⟨true, xp, xi, xd, xh⟩) rb G Gb1) := ⟨_, h7⟩; clear h7 hk7; have hs7 := HK7.out.size; clear d0 d1 d2 d3 d4 e0 e1 e2 e3 e4; obtain ⟨d0, d1, d2, d3, d4, e0, e1, e2, e3, e4⟩ := HD.out _ (HK6.out.no.trans (HK7.out.mono fun _ _ h => .inl h)))) | (go_at_call 15; ((with_reducible refine (two_gone _ (H7.out.choose_spec.swap.new ((Kept.refl _ _).alloc _)) yp (by simp) HS.out.2.2.2.2.1 (by omega)).mono ?_); rintro e w8 ⟨rfl, h8, hk8⟩))))
                    go_roundw
                    case rel => exact ⟨k + 1, by omega, by go_num, _, _, by rw [HT.out.2.1, HT.out.2.2]; exact h8.swap⟩
                    case measure => simp [intOf]; omega
          · go_wp2
            refine GPost.mk ((Kept.refl _ _).alloc _) ?_
            refine pl_grow (by simp only [List.getD_cons_succ, List.getD_cons_zero]; rfl) ?_
            go_wp2
            refine GPost.mk ((Kept.refl _ _).alloc _) ?_
            refine pl_grow (by simp only [List.getD_cons_succ, List.getD_cons_zero]; rfl) ?_
            refine wpList_store_whole (by rfl) (.tmp 8) (.tmp 31) 29 (by rfl) (wr.heap.size + 1) 0 29 (by rfl) _ (by rfl) agg29 z29 HZ.out.2.1 (by simp [z29]) (by simp [Value.oneCell']) ?_
            intro w3 HW3
            have n1 := new_row (z := z29) HZ.out.2.1 (by rfl) HW3.out
            refine GPost.mk (n1.2.2 _ (by omega)) ?_
            refine pl_grow (by simp only [List.getD_cons_succ, List.getD_cons_zero]; rfl) ?_
            refine wpList_store_whole (by rfl) (.tmp 9) (.tmp 39) 29 (by rfl) wr.heap.size 0 29 (by rfl) _ (by rfl) agg29 z29 ((n1.2.1 _ (by omega)).trans HZ.out.1) (by simp [z29]) (by simp [Value.oneCell']) ?_
            intro w4 HW4
            have n2 := new_row (z := z29) ((n1.2.1 _ (by omega)).trans HZ.out.1) (by rfl) HW4.out
            refine GPost.mk (n2.2.2 _ (by omega)) (pl_fin ?_)
            have r1 := (n2.2.1 (wr.heap.size + 1) (by omega)).trans n1.1
            have r2 := n2.1
            have r3 : Kept No wr w4 := (HZ.out.2.2.trans2 (n1.2.2 (fun b => wr.heap.size ≤ b) (by omega)) (fun i hi h => by omega)).trans2 (n2.2.2 (fun b => wr.heap.size ≤ b) (by omega)) (fun i hi h => by have := HZ.out.2.2.size; omega)
            have hx1 : (rba < (wr.heap.size + 1) ∧ rbb < (wr.heap.size + 1)) ∧ rba < wr.heap.size ∧ rbb < wr.heap.size := by omega
            have HB : Hid (w4.heap[(wr.heap.size + 1)]? = some (.cells [Value.bool xg, .int .i64 xp, .int .u64 xi, .slice A0 xd.length c0, .slice A1 xh.length c1].toArray 29 (0, 0)) ∧ w4.heap[wr.heap.size]? = some (.cells [Value.bool yg, .int .i64 yp, .int .u64 yi, .slice A2 yd.length c2, .slice A3 yh.length c3].toArray 29 (0, 0)) ∧ Kept No wr w4 ∧ (rba < (wr.heap.size + 1) ∧ rbb < (wr.heap.size + 1)) ∧ rba < wr.heap.size ∧ rbb < wr.heap.size) := ⟨r1, r2, r3, hx1⟩
            clear n1 n2 r1 r2 r3 hx1 HZ HW3 HW4
            obtain ⟨b1, hb1⟩ : ∃ b, b = (wr.heap.size + 1) := ⟨_, rfl⟩
            obtain ⟨b2, hb2⟩ : ∃ b, b = wr.heap.size := ⟨_, rfl⟩
            rw [← hb1, ← hb2]
            rw [← hb1, ← hb2] at HB
            have hx1 := HB.out.2.2.2
            have r1 := HB.out.1
            have r2 := HB.out.2.1
            clear hb1 hb2
            have HD : Hid (∀ W, Kept (fun k => k = rba ∨ k = rbb) w4 W → W.cell? ⟨b1, 0, none⟩ = some (.bool xg) ∧ W.cell? ⟨b1, 1, none⟩ = some (.int .i64 xp) ∧ W.cell? ⟨b1, 2, none⟩ = some (.int .u64 xi) ∧ W.cell? ⟨b1, 3, none⟩ = some (.slice A0 xd.length c0) ∧ W.cell? ⟨b1, 4, none⟩ = some (.slice A1 xh.length c1) ∧
                W.cell? ⟨b2, 0, none⟩ = some (.bool yg) ∧ W.cell? ⟨b2, 1, none⟩ = some (.int .i64 yp) ∧ W.cell? ⟨b2, 2, none⟩ = some (.int .u64 yi) ∧ W.cell? ⟨b2, 3, none⟩ = some (.slice A2 yd.length c2) ∧ W.cell? ⟨b2, 4, none⟩ = some (.slice A3 yh.length c3)) := by
              intro W hW
              have f1 : ∀ i u, [Value.bool xg, .int .i64 xp, .int .u64 xi, .slice A0 xd.length c0, .slice A1 xh.length c1][i]? = some u → W.cell? ⟨b1, i, none⟩ = some u := fun i u hu => hW.cell (by rw [cell_of_row w4 b1 i _ _ _ r1]; simpa using hu) (fun h => by have h : b1 = rba ∨ b1 = rbb := h; omega)
              have f2 : ∀ i u, [Value.bool yg, .int .i64 yp, .int .u64 yi, .slice A2 yd.length c2, .slice A3 yh.length c3][i]? = some u → W.cell? ⟨b2, i, none⟩ = some u := fun i u hu => hW.cell (by rw [cell_of_row w4 b2 i _ _ _ r2]; simpa using hu) (fun h => by have h : b2 = rba ∨ b2 = rbb := h; omega)
              exact ⟨f1 0 _ rfl, f1 1 _ rfl, f1 2 _ rfl, f1 3 _ rfl, f1 4 _ rfl, f2 0 _ rfl, f2 1 _ rfl, f2 2 _ rfl, f2 3 _ rfl, f2 4 _ rfl⟩
            have HT4 : Hid (Two w w4 ba rba bb rbb N ra rb Ga1 Gb1) := HT.out.1.new HB.out.2.2.1
            have hra4 : rba < w4.heap.size ∧ rbb < w4.heap.size := ⟨HT4.out.a.lt.2, HT4.out.b.lt.2⟩
            clear r1 r2 HB
            obtain ⟨d0, d1, d2, d3, d4, e0, e1, e2, e3, e4⟩ := HD.out w4 (Kept.refl _ _)
            by_cases hgx : 100 < xd.length ∨ 100 < xh.length
            · go_wp2_with (first | (go_at_call 14; ((with_reducible refine (great_yes _ hgx).mono ?_); rintro e w5 ⟨rfl, hk5⟩)) | (go_at_call 12; ((with_reducible refine (HA _).mono ?_); rintro e w6 ⟨rfl, hk6⟩)))
              go_ret
              exact ⟨rfl, (HT4.out.k.trans hk5).trans hk6⟩
            · by_cases hgy : 100 < yd.length ∨ 100 < yh.length
              · go_wp2_with (first | (go_at_call 14; first | ((with_reducible refine (great_no _ hgx).mono ?_); rintro e w5 ⟨rfl, hk5⟩; clear d0 d1 d2 d3 d4 e0 e1 e2 e3 e4; obtain ⟨d0, d1, d2, d3, d4, e0, e1, e2, e3, e4⟩ := HD.out _ hk5.no) | ((with_reducible refine (great_yes _ hgy).mono ?_); rintro e w6 ⟨rfl, hk6⟩)) | (go_at_call 12; ((with_reducible refine (HA _).mono ?_); rintro e w7 ⟨rfl, hk7⟩)))
                go_ret
                exact ⟨rfl, ((HT4.out.k.trans hk5).trans hk6).trans hk7⟩
              · have hxl : xd.length ≤ 100 ∧ xh.length ≤ 100 := by omega
                have hyl : yd.length ≤ 100 ∧ yh.length ≤ 100 := by omega
                cases xg with
                | false =>
                  cases yg with
                  | false =>
                    go_wp2_with (first | (go_at_call 14; first | ((with_reducible refine (great_no _ hgx).mono ?_); rintro e w5 ⟨rfl, hk5⟩; clear d0 d1 d2 d3 d4 e0 e1 e2 e3 e4; obtain ⟨d0, d1, d2, d3, d4, e0, e1, e2, e3, e4⟩ := HD.out _ hk5.no) | ((with_reducible refine (great_no _ hgy).mono ?_); rintro e w6 ⟨rfl, hk6⟩; have HK6 : Hid (Kept No w4 w6) := hk5.trans hk6; have hs6 := HK6.out.size; clear hk5 hk6; clear d0 d1 d2 d3 d4 e0 e1 e2 e3 e4; obtain ⟨d0, d1, d2, d3, d4, e0, e1, e2, e3, e4⟩ := HD.out _ HK6.out.no)) | (first | (go_at_call 16; ((with_reducible refine (two_tell _ (HT4.out.new HK6.out) xp xi _ _ xd xh HS.out.2.1 HS.out.2.2.1 HS.out.2.2.2.1 hxl.1 hxl.2).mono ?_); rintro e w7 ⟨rfl, h7, hk7⟩; have HK7 : Hid (Kept (fun k => k = rba) w6 w7) := hk7; have H7 : Hid (∃ G, Two w w7 ba rba bb rbb N (deed ra ⟨false, xp, xi, xd, xh⟩) rb G Gb1) := h7; clear h7 hk7; have hs7 := HK7.out.size; clear d0 d1 d2 d3 d4 e0 e1 e2 e3 e4; obtain ⟨d0, d1, d2, d3, d4, e0, e1, e2, e3, e4⟩ := HD.out _ (HK6.out.no.trans (HK7.out.mono fun _ _ h => .inl h)))) | (go_at_call 16; ((with_reducible refine (two_tell _ H7.out.choose_spec.swap yp yi _ _ yd yh HS.out.2.2.2.2.2.1 HS.out.2.2.2.2.2.2.1 HS.out.2.2.2.2.2.2.2 hyl.1 hyl.2).mono ?_); rintro e w8 ⟨rfl, ⟨G8, h8⟩, hk8⟩))))
                    go_roundw
                    case rel => exact ⟨k + 1, by omega, by go_num, _, _, by rw [HT.out.2.1, HT.out.2.2]; exact h8.swap⟩
                    case measure => simp [intOf]; omega
                  | true =>
                    go_wp2_with (first | (go_at_call 14; first | ((with_reducible refine (great_no _ hgx).mono ?_); rintro e w5 ⟨rfl, hk5⟩; clear d0 d1 d2 d3 d4 e0 e1 e2 e3 e4; obtain ⟨d0, d1, d2, d3, d4, e0, e1, e2, e3, e4⟩ := HD.out _ hk5.no) | ((with_reducible refine (great_no _ hgy).mono ?_); rintro e w6 ⟨rfl, hk6⟩; have HK6 : Hid (Kept No w4 w6) := hk5.trans hk6; have hs6 := HK6.out.size; clear hk5 hk6; clear d0 d1 d2 d3 d4 e0 e1 e2 e3 e4; obtain ⟨d0, d1, d2, d3, d4, e0, e1, e2, e3, e4⟩ := HD.out _ HK6.out.no)) | (go_at_call 16; ((with_reducible refine (two_tell _ (HT4.out.new HK6.out) xp xi _ _ xd xh HS.out.2.1 HS.out.2.2.1 HS.out.2.2.2.1 hxl.1 hxl.2).mono ?_); rintro e w7 ⟨rfl, h7, hk7⟩; have HK7 : Hid (Kept (fun k => k = rba) w6 w7) := hk7; have H7 : Hid (∃ G, Two w w7 ba rba bb rbb N (deed ra ⟨false, xp, xi, xd, xh⟩) rb G Gb1) := h7; clear h7 hk7; have hs7 := HK7.out.size; clear d0 d1 d2 d3 d4 e0 e1 e2 e3 e4; obtain ⟨d0, d1, d2, d3, d4, e0, e1, e2, e3, e4⟩ := HD.out _ (HK6.out.no.trans (HK7.out.mono fun _ _ h => .inl h)))) | (go_at_call 15; ((with_reducible refine (two_gone _ (H7.out.choose_spec.swap.new ((Kept.refl _ _).alloc _)) yp (by simp) HS.out.2.2.2.2.1 (by omega)).mono ?_); rintro e w8 ⟨rfl, h8, hk8⟩)))
                    go_roundw
                    case rel => exact ⟨k + 1, by omega, by go_num, _, _, by rw [HT.out.2.1, HT.out.2.2]; exact h8.swap⟩
                    case measure => simp [intOf]; omega
                | true =>
                  cases yg with
                  | false =>
                    go_wp2_with (first | (go_at_call 14; first | ((with_reducible refine (great_no _ hgx).mono ?_); rintro e w5 ⟨rfl, hk5⟩; clear d0 d1 d2 d3 d4 e0 e1 e2 e3 e4; obtain ⟨d0, d1, d2, d3, d4, e0, e1, e2, e3, e4⟩ := HD.out _ hk5.no) | ((with_reducible refine (great_no _ hgy).mono ?_); rintro e w6 ⟨rfl, hk6⟩; have HK6 : Hid (Kept No w4 w6) := hk5.trans hk6; have hs6 := HK6.out.size; clear hk5 hk6; clear d0 d1 d2 d3 d4 e0 e1 e2 e3 e4; obtain ⟨d0, d1, d2, d3, d4, e0, e1, e2, e3, e4⟩ := HD.out _ HK6.out.no)) | (go_at_call 15; ((with_reducible refine (two_gone _ ((HT4.out.new HK6.out).new ((Kept.refl _ _).alloc _)) xp (by simp) HS.out.1 (by omega)).mono ?_); rintro e w7 ⟨rfl, h7, hk7⟩; have HK7 : Hid (Kept (fun k => k = rba) w6 w7) := (((Kept.refl _ w6).alloc _).trans hk7); have H7 : Hid (∃ G, Two w w7 ba rba bb rbb N (deed ra ⟨true, xp, xi, xd, xh⟩) rb G Gb1) := ⟨_, h7⟩; clear h7 hk7; have hs7 := HK7.out.size; clear d0 d1 d2 d3 d4 e0 e1 e2 e3 e4; obtain ⟨d0, d1, d2, d3, d4, e0, e1, e2, e3, e4⟩ := HD.out _ (HK6.out.no.trans (HK7.out.mono fun _ _ h => .inl h)))) | (go_at_call 16; ((with_reducible refine (two_tell _ H7.out.choose_spec.swap yp yi _ _ yd yh HS.out.2.2.2.2.2.1 HS.out.2.2.2.2.2.2.1 HS.out.2.2.2.2.2.2.2 hyl.1 hyl.2).mono ?_); rintro e w8 ⟨rfl, ⟨G8, h8⟩, hk8⟩)))
                    go_roundw
                    case rel => exact ⟨k + 1, by omega, by go_num, _, _, by rw [HT.out.2.1, HT.out.2.2]; exact h8.swap⟩
                    case measure => simp [intOf]; omega
                  | true =>
                    go_wp2_with (first | (go_at_call 14; first | ((with_reducible refine (great_no _ hgx).mono ?_); rintro e w5 ⟨rfl, hk5⟩; clear d0 d1 d2 d3 d4 e0 e1 e2 e3 e4; obtain ⟨d0, d1, d2, d3, d4, e0, e1, e2, e3, e4⟩ := HD.out _ hk5.no) | ((with_reducible refine (great_no _ hgy).mono ?_); rintro e w6 ⟨rfl, hk6⟩; have HK6 : Hid (Kept No w4 w6) := hk5.trans hk6; have hs6 := HK6.out.size; clear hk5 hk6; clear d0 d1 d2 d3 d4 e0 e1 e2 e3 e4; obtain ⟨d0, d1, d2, d3, d4, e0, e1, e2, e3, e4⟩ := HD.out _ HK6.out.no)) | (first | (go_at_call 15; ((with_reducible refine (two_gone _ ((HT4.out.new HK6.out).new ((Kept.refl _ _).alloc _)) xp (by simp) HS.out.1 (by omega)).mono ?_); rintro e w7 ⟨rfl, h7, hk7⟩; have HK7 : Hid (Kept (fun k => k = rba) w6 w7) := (((Kept.refl _ w6).alloc _).trans hk7); have H7 : Hid (∃ G, Two w w7 ba rba bb rbb N (deed ra ⟨true, xp, xi, xd, xh⟩) rb G Gb1) := ⟨_, h7⟩; clear h7 hk7; have hs7 := HK7.out.size; clear d0 d1 d2 d3 d4 e0 e1 e2 e3 e4; obtain ⟨d0, d1, d2, d3, d4, e0, e1, e2, e3, e4⟩ := HD.out _ (HK6.out.no.trans (HK7.out.mono fun _ _ h => .inl h)))) | (go_at_call 15; ((with_reducible refine (two_gone _ (H7.out.choose_spec.swap.new ((Kept.refl _ _).alloc _)) yp (by simp) HS.out.2.2.2.2.1 (by omega)).mono ?_); rintro e w8 ⟨rfl, h8, hk8⟩))))
                    go_roundw
                    case rel => exact ⟨k + 1, by omega, by go_num, _, _, by rw [HT.out.2.1, HT.out.2.2]; exact h8.swap⟩
                    case measure => simp [intOf]; omega
        · have hkL : k = L := by omega
          subst hkL
          have t1 : l.take k = l := List.take_of_length_le (by rw [HL.out]; exact Nat.le_refl _)
          have t2 : l.reverse.take k = l.reverse := List.take_of_length_le (by rw [List.length_reverse, HL.out]; exact Nat.le_refl _)
          rw [t1, t2, deeds_reverse] at htwo
          obtain ⟨RF, hRF⟩ : ∃ R, R = l.foldl deed R0 := ⟨_, rfl⟩
          rw [← hRF] at htwo
          have HT : Hid (Two w wr ba rba bb rbb N RF RF Ga1 Gb1) := htwo
          clear htwo hRF t1 t2
          go_wp2_with (first
            | (go_at_call 18; first
              | ((with_reducible refine (stable_any wr HT.out.a).mono ?_); rintro e w1 ⟨v1, rfl, hs1, hk1⟩; have K1 : Hid (Kept No wr w1 ∧ Sl (kI .u64) w1 (fun _ => True) v1 (stableM N RF)) := ⟨hk1, hs1.mono fun _ _ _ => trivial⟩; clear hk1 hs1)
              | ((with_reducible refine (stable_any w1 (HT.out.b.new K1.out.1)).mono ?_); rintro e w2 ⟨v2, rfl, hs2, hk2⟩; have K2 : Hid (Kept No wr w2 ∧ Kept No w1 w2 ∧ Sl (kI .u64) w2 (fun _ => True) v2 (stableM N RF)) := ⟨K1.out.1.trans hk2, hk2, hs2.mono fun _ _ _ => trivial⟩; clear hk2 hs2))
            | (go_at_call 17; first
              | ((with_reducible refine (equal04_any v1 v2 _ _ w2 _ (K1.out.2.new K2.out.2.1) K2.out.2.2).mono ?_); rw [equal04_refl]; rintro e w3 ⟨rfl, hk3⟩; have K3 : Hid (Kept No wr w3) := K2.out.1.trans hk3; clear hk3)
              | ((with_reducible refine (equal04_any v6 v7 _ _ w7 _ (K6.out.2.new K7.out.2.1) K7.out.2.2).mono ?_); rw [equal04_refl]; rintro e w8 ⟨rfl, hk8⟩; have K8 : Hid (Kept No wr w8) := K7.out.1.trans hk8; clear hk8))
            | (go_at_call 19; first
              | ((with_reducible refine (least_any w3 (HT.out.a.new K3.out)).mono ?_); rintro e w4 ⟨rfl, hk4⟩; have K4 : Hid (Kept No wr w4) := K3.out.trans hk4; clear hk4)
              | ((with_reducible refine (least_any w4 (HT.out.b.new K4.out)).mono ?_); rintro e w5 ⟨rfl, hk5⟩; have K5 : Hid (Kept No wr w5) := K4.out.trans hk5; clear hk5))
            | (go_at_call 20; first
              | ((with_reducible refine (most_any w5 (HT.out.a.new K5.out)).mono ?_); rintro e w6 ⟨v6, rfl, hs6, hk6⟩; have K6 : Hid (Kept No wr w6 ∧ Sl (kI .u64) w6 (fun _ => True) v6 (mostM RF)) := ⟨K5.out.trans hk6, hs6.mono fun _ _ _ => trivial⟩; clear hk6 hs6)
              | ((with_reducible refine (most_any w6 (HT.out.b.new K6.out.1)).mono ?_); rintro e w7 ⟨v7, rfl, hs7, hk7⟩; have K7 : Hid (Kept No wr w7 ∧ Kept No w6 w7 ∧ Sl (kI .u64) w7 (fun _ => True) v7 (mostM RF)) := ⟨K6.out.1.trans hk7, hk7, hs7.mono fun _ _ _ => trivial⟩; clear hk7 hs7))
            | (go_at_call 12; ((with_reducible refine (HA _).mono ?_); rintro e w9 ⟨rfl, hk9⟩)))
          go_ret
          exact ⟨rfl, (HT.out.k.trans K8.out).trans hk9⟩
end Go.Proofs.Ytfnecdkfhackkaa
