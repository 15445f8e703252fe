/- MatrixPlays: the walk. -/
import Derived.Test.YtfnecdkfhackkaaMPlaysA
set_option linter.unusedVariables false
set_option linter.unusedSimpArgs false
namespace Go.Proofs.Ytfnecdkfhackkaa
open Go.RowKit

set_option maxHeartbeats 8000000 in
set_option maxRecDepth 20000 in
theorem plays_any (n : Int) (v : Value) (l : List Deed) (f : Nat) (s : Int) (hf : (f : Int) ≤ 255) (w : World) (hl : Sl kDeed w (Old w) v l) : Calls Try.prog 6 #[.int .i64 n, v, .agg #[.int .u8 f, .int .u64 s]] w fun e w' => e = .returned (.bool true) ∧ Kept No w w' := by
  obtain ⟨A, c, rfl, hlm, hat⟩ := deeds_at hl
  have HA := fun W => awake18_any W
  have hka : Kept No w (w.alloc (.cells #[.int .u8 f, .int .u64 s] 40)) := (Kept.refl _ _).alloc _
  have HKA : Hid (Kept No w (w.alloc (.cells #[.int .u8 f, .int .u64 s] 40))) := hka
  by_cases hbig : 100 < l.length
  · have h1 : (100 : Int) < (l.length : Int) := by omega
    clear hl hat hka
    go_enter Try.func6, Try.ntmps6
    go_wp2_with (go_at_call 12; ((with_reducible refine (HA _).mono ?_); rintro e w' ⟨rfl, hk⟩))
    go_ret
    exact ⟨rfl, HKA.out.trans hk⟩
  · have h1 : ¬ (100 : Int) < (l.length : Int) := by omega
    by_cases hn : 20 < n
    · clear hl hat hka
      go_enter Try.func6, Try.ntmps6
      go_wp2_with (go_at_call 12; ((with_reducible refine (HA _).mono ?_); rintro e w' ⟨rfl, hk⟩))
      go_ret
      exact ⟨rfl, HKA.out.trans hk⟩
    · obtain ⟨L, hL⟩ : ∃ L, L = l.length := ⟨_, rfl⟩
      rw [← hL] at hlm h1 hbig ⊢
      have HL : Hid (L = l.length) := hL
      have HAT : Hid (∀ j x, l[j]? = some x → ∃ bl off vd vh, A = some ⟨bl, off, none⟩ ∧ bl < w.heap.size ∧ (∀ i u, [.bool x.gone, .int .i64 x.p, .int .u64 x.inst, vd, vh][i]? = some u → w.cell? ⟨bl, off + j * 5 + i, none⟩ = some u) ∧
        InR .i64 x.p ∧ InR .u64 x.inst ∧ Sl (kI .u64) w (Old w) vd x.done ∧ Sl (kI .u64) w (Old w) vh x.held) := hat
      clear hL hat hl hka
      have hnew := fun W => new_any n W
      have hnw18 := fun W => new18_any n hn W
      have hN1 : 1 ≤ (max 1 (min n 64)).toNat ∧ (max 1 (min n 64)).toNat ≤ 64 := by omega
      obtain ⟨N, hN⟩ : ∃ N, N = (max 1 (min n 64)).toNat := ⟨_, rfl⟩
      rw [← hN] at hnew hnw18 hN1
      obtain ⟨R0, hR0⟩ : ∃ R, R = List.replicate N (zrow N) := ⟨_, rfl⟩
      rw [← hR0] at hnew hnw18
      clear hN hR0
      have hid0 : (w.alloc (.cells #[.int .u8 f, .int .u64 s] 40)).cell? ⟨w.heap.size, 0, none⟩ = some (.int .u8 f) := by simp
      have hid1 : (w.alloc (.cells #[.int .u8 f, .int .u64 s] 40)).cell? ⟨w.heap.size, 1, none⟩ = some (.int .u64 s) := by simp
      have HID : Hid ((w.alloc (.cells #[.int .u8 f, .int .u64 s] 40)).cell? ⟨w.heap.size, 0, none⟩ = some (.int .u8 f) ∧ (w.alloc (.cells #[.int .u8 f, .int .u64 s] 40)).cell? ⟨w.heap.size, 1, none⟩ = some (.int .u64 s)) := ⟨hid0, hid1⟩
      clear hid0 hid1
      go_enter Try.func6, Try.ntmps6
      go_wp2_with (first
        | (go_at_call 13; ((with_reducible refine (hnew _).mono ?_); rintro e w1 ⟨b, rb, G1, rfl, hma, hka, hra, hba, hGa⟩; have hra' : w.heap.size + 1 ≤ rb := (by simpa using hra); have H1 : Hid (One w w1 b rb N R0 G1 ∧ Kept No (w.alloc (.cells #[.int .u8 f, .int .u64 s] 40)) w1 ∧ w.heap.size + 1 ≤ rb) := ⟨⟨hma, HKA.out.trans hka, by omega⟩, hka, hra'⟩; have hrb1 := hma.lt; have HGlt : Hid (∀ k, G1 k → k < w1.heap.size) := hma.glt; clear hma hka hra hba hGa hra'))
        | (go_at_call 28; ((with_reducible refine (hnw18 _).mono ?_); rintro e w2 ⟨A2, c2, rfl, hs2, hk2⟩; have H2 : Hid (Sl kRow w2 (New w1 w2) (.slice A2 N c2) R0 ∧ Kept No w1 w2) := ⟨hs2, hk2⟩; have hs12 := hk2.size; clear hs2 hk2)))
      clear hnew hnw18
      have hpl : Pl w (w2.alloc (.cells #[.slice A2 N c2] 48)) b rb w2.heap.size w.heap.size N f s R0 R0 G1 A2 c2 := by
        have e1 := H1.out.2.2
        have hka : Kept No w2 (w2.alloc (.cells #[.slice A2 N c2] 48)) := (Kept.refl _ _).alloc _
        have hks := (H1.out.2.1.trans H2.out.2).trans hka
        exact ⟨H1.out.1.new (H2.out.2.trans hka), heap_alloc_new _ _, (H2.out.1.new hka).mono fun k hk hlt => ⟨by have := hk.1; omega, by have := hk.2; omega, hlt⟩, fun h => by have := HGlt.out _ h; omega, by omega, by omega, by omega, by have := H1.out.1.k.size; have := H1.out.2.1.size; simp only [World.size_alloc] at this; omega, hks.cell HID.out.1 id, hks.cell HID.out.2 id, Nat.le_trans H1.out.1.k.size hs12⟩
      obtain ⟨wb, hwb⟩ : ∃ wb, wb = w2.alloc (.cells #[.slice A2 N c2] 48) := ⟨_, rfl⟩
      obtain ⟨mb, hmb⟩ : ∃ mb, mb = w2.heap.size := ⟨_, rfl⟩
      obtain ⟨ib, hib⟩ : ∃ ib, ib = w.heap.size := ⟨_, rfl⟩
      rw [← hwb, ← hmb, ← hib] at hpl
      have HPL : Hid (Pl w wb b rb mb ib N f s R0 R0 G1 A2 c2) := hpl
      rw [← hwb, ← hmb, ← hib]
      clear hpl hwb hmb hib H1 H2 HID hrb1 HGlt hs12
      go_loopw [9] (fun i wr => ∃ k : Nat, k ≤ L ∧ i = .int .i64 k ∧ ∃ R G A' c', R = (l.take k).foldl deed R0 ∧ Pl w wr b rb mb ib N f s R R G A' c') (fun i _ => L - (intOf i).toNat)
      case atStart => exact ⟨0, Nat.zero_le _, rfl, R0, G1, A2, c2, rfl, HPL.out⟩
      case round =>
        obtain ⟨k, hk, rfl, R, G, AM, cM, hR, hpl⟩ := hrel
        by_cases hlt : k < L
        · obtain ⟨⟨xg, xp, xi, xd, xh⟩, hx⟩ : ∃ x, l[k]? = some x := ⟨_, List.getElem?_eq_getElem (by rw [← HL.out]; exact hlt)⟩
          have sx := foldl_snoc deed R0 l k _ hx
          rw [← hR] at sx
          obtain ⟨bl, off, vd, vh, rfl, hbl, hcx, px, ix, hdx, hhx⟩ := HAT.out k _ hx
          simp only at hcx hdx hhx px ix
          obtain ⟨A0, c0, rfl, _⟩ := hdx.slice
          obtain ⟨A1, c1, rfl, _⟩ := hhx.slice
          have hkw := hpl.o.k
          have d0 : wr.cell? ⟨bl, off + k * 5, none⟩ = some (.bool xg) := hkw.cell (hcx 0 _ rfl) id
          have d1 := hkw.cell (hcx 1 _ rfl) id
          have d2 := hkw.cell (hcx 2 _ rfl) id
          have d3 := hkw.cell (hcx 3 _ rfl) id
          have d4 := hkw.cell (hcx 4 _ rfl) id
          obtain ⟨hmlt, hrlt, hilt⟩ := hpl.lt
          obtain ⟨R', hR'⟩ : ∃ R', R' = deed R ⟨xg, xp, xi, xd, xh⟩ := ⟨_, rfl⟩
          have HS : Hid (InR .i64 xp ∧ InR .u64 xi ∧ Sl (kI .u64) w (Old w) (.slice A0 xd.length c0) xd ∧ Sl (kI .u64) w (Old w) (.slice A1 xh.length c1) xh) := ⟨px, ix, hdx, hhx⟩
          have HT : Hid (Pl w wr b rb mb ib N f s R R G AM cM ∧ (l.take (k + 1)).foldl deed R0 = R' ∧ R' = deed R ⟨xg, xp, xi, xd, xh⟩) := ⟨hpl, by rw [sx, hR'], hR'⟩
          clear hkw hcx px ix hdx hhx hpl sx hx hR hR'
          have hblr : bl < wr.heap.size := World.block_lt_of_cell? wr _ d0
          have HF : Hid (∀ W, Kept (fun k => k = rb ∨ k = mb) (wr.alloc (.cells #[.bool xg, .int .i64 xp, .int .u64 xi, .slice A0 xd.length c0, .slice A1 xh.length c1] 29)) W → W.cell? ⟨wr.heap.size, 0, none⟩ = some (.bool xg) ∧ W.cell? ⟨wr.heap.size, 1, none⟩ = some (.int .i64 xp) ∧ W.cell? ⟨wr.heap.size, 2, none⟩ = some (.int .u64 xi) ∧ W.cell? ⟨wr.heap.size, 3, none⟩ = some (.slice A0 xd.length c0) ∧ W.cell? ⟨wr.heap.size, 4, none⟩ = some (.slice A1 xh.length c1)) := by
            intro W hW
            have hne : ¬ (fun k => k = rb ∨ k = mb) wr.heap.size := fun e => by rcases e with e | e <;> omega
            exact ⟨hW.cell (by simp) hne, hW.cell (by simp) hne, hW.cell (by simp) hne, hW.cell (by simp) hne, hW.cell (by simp) hne⟩
          by_cases hgx : 100 < xd.length ∨ 100 < xh.length
          · go_wp2_with (first | (go_at_call 14; ((with_reducible refine (great_yes _ hgx).mono ?_); rintro e w5 ⟨rfl, hk5⟩)) | (go_at_call 12; ((with_reducible refine (HA _).mono ?_); rintro e w6 ⟨rfl, hk6⟩)))
            go_ret
            exact ⟨rfl, HT.out.1.o.k.trans ((((Kept.refl _ wr).alloc _).trans hk5).trans hk6)⟩
          · have hxl : xd.length ≤ 100 ∧ xh.length ≤ 100 := by omega
            have H5len : R'.length = N := by rw [HT.out.2.2]; exact (deed_rise R _).len HT.out.1.o.m.len
            cases xg with
            | true =>
              cases hrow : rowAt R' xp with
              | none =>
                have hof := of_dec_none H5len hrow
                have hrow0 : instOf R' xp = 0 ∧ doneOf R' xp = [] ∧ heldOf R' xp = [] := by unfold instOf doneOf heldOf; rw [hrow]; exact ⟨rfl, rfl, rfl⟩
                have HROW : Hid (instOf R' xp = 0 ∧ doneOf R' xp = [] ∧ heldOf R' xp = []) := hrow0
                clear hrow hrow0
                go_wp2_with (first
                  | (go_at_call 14; ((with_reducible refine (great_no _ hgx).mono ?_); rintro e w5 ⟨rfl, hk5⟩; have H5 : Hid (Kept (fun k => k = rb ∨ k = mb) (wr.alloc (.cells #[.bool _, .int .i64 _, .int .u64 xi, .slice A0 xd.length c0, .slice A1 xh.length c1] 29)) w5 ∧ Pl w w5 b rb mb ib N f s R R G AM cM) := ⟨hk5.no, HT.out.1.new (((Kept.refl _ wr).alloc _).trans hk5)⟩; clear d0 d1 d2 d3 d4; obtain ⟨f0, f1, f2, f3, f4⟩ := HF.out _ H5.out.1; obtain ⟨m0, _⟩ := heap_one H5.out.2.m; obtain ⟨lm5, lr5, li5⟩ := H5.out.2.lt; have lf5 := World.block_lt_of_cell? w5 _ f1; clear hk5))
                  | (go_at_call 29; go_loud ((with_reducible refine (gone18_any _ N cM xp R w5 _ H5.out.2.rs H5.out.2.flt H5.out.2.o.m.len hN1.2).mono ?_); rintro e w6 ⟨A6, c6, rfl, hs6, hk6⟩; have H6 : Hid (Sl kRow w6 (fun k => (k ≠ rb ∧ k ≠ mb ∧ k < w5.heap.size) ∨ New w5 w6 k) (.slice A6 N c6) (gone1 R xp) ∧ Kept No w5 w6 ∧ Pl w w6 b rb mb ib N f s R R G AM cM) := ⟨hs6, hk6, H5.out.2.new hk6⟩; obtain ⟨m0, m1⟩ := heap_one H6.out.2.2.m; obtain ⟨lm6, lr6, li6⟩ := H6.out.2.2.lt; obtain ⟨f0, f1, f2, f3, f4⟩ := HF.out _ (H5.out.1.trans hk6.no); have lf6 := World.block_lt_of_cell? w6 _ f1; clear hs6 hk6))
                  | (go_at_call 15; go_loud (have hT15 := act_gone H5.out.2 w6 A6 c6 xp HS.out.1 H6.out.1 H6.out.2.1; (with_reducible refine hT15.mono ?_); rintro e w8 ⟨rfl, h8, hk68⟩; clear hT15; have h8 : Pl w w8 b rb mb ib N f s R' R' G A6 c6 := HT.out.2.2 ▸ h8; have H8 : Hid (Pl w w8 b rb mb ib N f s R' R' G A6 c6 ∧ ∀ W, Kept No w8 W → W.cell? ⟨wr.heap.size, 1, none⟩ = some (.int .i64 xp)) := ⟨h8, fun W hW => hW.cell (HF.out _ ((H5.out.1.trans H6.out.2.1.no).trans hk68)).2.1 id⟩; clear f0 f2 f3 f4 m0 m1; have f1 := H8.out.2 w8 (Kept.refl _ _); obtain ⟨m0, _⟩ := heap_one H8.out.1.m; obtain ⟨lm8, lr8, li8⟩ := H8.out.1.lt; have lf8 := World.block_lt_of_cell? w8 _ f1; clear h8 hk68))
                  | (go_at_call 31; go_loud ((with_reducible refine (r18of_any _ N _ xp _).mono ?_); rw [hof]; rintro e w10 ⟨rfl, hk10⟩; have H10 : Hid (Kept No (w8.alloc (.cells #[.int .u64 0, .slice none 0 0, .slice none 0 0, .bool false] 54)) w10) := hk10; clear f1 m0; have f1 := H8.out.2 w10 (((Kept.refl _ w8).alloc _).trans hk10); have H10P : Hid (Pl w w10 b rb mb ib N f s R' R' G A6 c6) := H8.out.1.new (((Kept.refl _ w8).alloc _).trans hk10); obtain ⟨m0, _⟩ := heap_one H10P.out.m; obtain ⟨⟨y0, y1, y2, y3⟩, _⟩ := box4 (w := w) hk10 (fun h => h);  clear hk10)))
                obtain ⟨ww, hww⟩ : ∃ ww, ww = w10 := ⟨_, rfl⟩
                rw [← hww] at H10P f1 y0 y1 y2 ⊢
                clear hww
                obtain ⟨Ax, nx, cx, Ay, ny, cy, HX⟩ : ∃ Ax nx cx Ay ny cy, Hid (Pl w ww b rb mb ib N f s R' R' G A6 c6 ∧ ww.cell? ⟨w8.heap.size, 0, none⟩ = some (.int .u64 (instOf R' xp)) ∧ ww.cell? ⟨w8.heap.size, 1, none⟩ = some (.slice Ax nx cx) ∧ ww.cell? ⟨w8.heap.size, 2, none⟩ = some (.slice Ay ny cy) ∧ Sl (kI .u64) ww (fun _ => True) (.slice Ax nx cx) (doneOf R' xp) ∧ Sl (kI .u64) ww (fun _ => True) (.slice Ay ny cy) (heldOf R' xp)) := by
                  rw [HROW.out.1, HROW.out.2.1, HROW.out.2.2]
                  exact ⟨none, 0, 0, none, 0, 0, H10P.out, y0, y1, y2, Sl.nil _ _ _, Sl.nil _ _ _⟩
                clear y0 y1 y2 y3 m0
                have hcell1 : ww.drew.cell? ⟨wr.heap.size, 1, none⟩ = some (.int .i64 xp) := f1
                have hy0 : ww.drew.cell? ⟨w8.heap.size, 0, none⟩ = some (.int .u64 (instOf R' xp)) := HX.out.2.1
                have hy1 : ww.drew.cell? ⟨w8.heap.size, 1, none⟩ = some (.slice Ax nx cx) := HX.out.2.2.1
                have hy2 : ww.drew.cell? ⟨w8.heap.size, 2, none⟩ = some (.slice Ay ny cy) := HX.out.2.2.2.1
                obtain ⟨I0, hI0⟩ : ∃ I, I = instOf R' xp := ⟨_, rfl⟩
                rw [← hI0] at hy0
                have HI : Hid (I0 = instOf R' xp) := hI0
                clear hI0
                have HXd : Hid (Pl w ww.drew b rb mb ib N f s R' R' G A6 c6) := HX.out.1.new (Kept.refl _ _).drew
                refine wp_region_plan No (.pur 0 (.pur 1 (.pur 4 (.rd 2 (.rd 5 (.grow 3 (.pur 6 (.pur 7 (.pur 8 (.pur 9 (.pur 12 (.rd 10 (.rd 13 (.grow 11 (.grow 14 (.pur 15 (.pur 16 (.pur 17 (.pur 18 (.pur 19 (.pur 22 (.rd 20 (.rd 23 (.grow 21 (.grow 24 (.pur 25 (.pur 26 .fin))))))))))))))))))))))))))) [] mixed (by kernel_rfl) ?_
                repeat ((first | refine pl_pur (by simp only [List.getD_cons_succ, List.getD_cons_zero]; rfl) _ (by rfl) (fun W => by go_simp; with_reducible rfl) ?_ | refine pl_rd (by simp only [List.getD_cons_succ, List.getD_cons_zero]; rfl) _ (by rfl) (fun W hW => by have hc := hW.cell (hcell1) id; clear hW; go_simp; with_reducible rfl) ?_ | refine pl_rd (by simp only [List.getD_cons_succ, List.getD_cons_zero]; rfl) _ (by rfl) (fun W hW => by have hc := hW.cell (hy0) id; clear hW; go_simp; with_reducible rfl) ?_); simp only [Act.put, List.setIfInBounds_toArray, List.set_cons_zero, List.set_cons_succ])
                refine pl_grow (by simp only [List.getD_cons_succ, List.getD_cons_zero]; rfl) ?_
                go_wp2_with (go_at_call 21; ((with_reducible refine (inst_any ww.drew HXd.out.o.m xp).mono ?_); rintro e w12 ⟨rfl, rfl⟩))
                rw [← HI.out]
                refine GPost.mk (Kept.refl _ _) ?_
                repeat ((first | refine pl_pur (by simp only [List.getD_cons_succ, List.getD_cons_zero]; rfl) _ (by rfl) (fun W => by go_simp; with_reducible rfl) ?_ | refine pl_rd (by simp only [List.getD_cons_succ, List.getD_cons_zero]; rfl) _ (by rfl) (fun W hW => by have hc := hW.cell (hcell1) id; clear hW; go_simp; with_reducible rfl) ?_ | refine pl_rd (by simp only [List.getD_cons_succ, List.getD_cons_zero]; rfl) _ (by rfl) (fun W hW => by have hc := hW.cell (hy1) id; clear hW; go_simp; with_reducible rfl) ?_); simp only [Act.put, List.setIfInBounds_toArray, List.set_cons_zero, List.set_cons_succ])
                refine pl_grow (by simp only [List.getD_cons_succ, List.getD_cons_zero]; rfl) ?_
                go_wp2_with (go_at_call 22; ((with_reducible refine (done_any ww.drew HXd.out.o.m xp).mono ?_); rintro e w12 ⟨v12, rfl, hs12, hk12⟩))
                refine GPost.mk hk12 ?_
                have H12 : Hid (Kept No ww.drew w12 ∧ Sl (kI .u64) w12 (fun _ => True) v12 (doneOf R' xp)) := ⟨hk12, hs12.mono fun _ _ _ => trivial⟩
                clear hk12 hs12
                repeat ((first | refine pl_pur (by simp only [List.getD_cons_succ, List.getD_cons_zero]; rfl) _ (by rfl) (fun W => by go_simp; with_reducible rfl) ?_ | refine pl_rd (by simp only [List.getD_cons_succ, List.getD_cons_zero]; rfl) _ (by rfl) (fun W hW => by have hc := kcell hW; clear hW; go_simp; with_reducible rfl) ?_); simp only [Act.put, List.setIfInBounds_toArray, List.set_cons_zero, List.set_cons_succ])
                refine pl_grow (by simp only [List.getD_cons_succ, List.getD_cons_zero]; rfl) ?_
                go_wp2_with (go_at_call 17; ((with_reducible refine (equal04_any v12 _ _ _ w12 (fun _ => True) H12.out.2 (HX.out.2.2.2.2.1.new ((Kept.refl No ww).drew.trans H12.out.1))).mono ?_); rw [equal04_refl]; rintro e w13 ⟨rfl, hk13⟩))
                refine GPost.mk hk13 ?_
                have H13 : Hid (Kept No ww.drew w13) := H12.out.1.trans hk13
                have hc13 := H13.out.cell hcell1 id
                have hy13 := H13.out.cell hy2 id
                clear hk13
                repeat ((first | refine pl_pur (by simp only [List.getD_cons_succ, List.getD_cons_zero]; rfl) _ (by rfl) (fun W => by go_simp; with_reducible rfl) ?_ | refine pl_rd (by simp only [List.getD_cons_succ, List.getD_cons_zero]; rfl) _ (by rfl) (fun W hW => by have hc := hW.cell (hc13) id; clear hW; go_simp; with_reducible rfl) ?_ | refine pl_rd (by simp only [List.getD_cons_succ, List.getD_cons_zero]; rfl) _ (by rfl) (fun W hW => by have hc := hW.cell (hy13) id; clear hW; go_simp; with_reducible rfl) ?_); simp only [Act.put, List.setIfInBounds_toArray, List.set_cons_zero, List.set_cons_succ])
                refine pl_grow (by simp only [List.getD_cons_succ, List.getD_cons_zero]; rfl) ?_
                go_wp2_with (go_at_call 23; ((with_reducible refine (held_any w13 (HXd.out.o.m.new H13.out) xp).mono ?_); rintro e w14 ⟨v14, rfl, hs14, hk14⟩))
                refine GPost.mk hk14 ?_
                have H14 : Hid (Kept No ww.drew w14 ∧ Sl (kI .u64) w14 (fun _ => True) v14 (heldOf R' xp)) := ⟨H13.out.trans hk14, hs14.mono fun _ _ _ => trivial⟩
                clear hk14 hs14
                repeat ((first | refine pl_pur (by simp only [List.getD_cons_succ, List.getD_cons_zero]; rfl) _ (by rfl) (fun W => by go_simp; with_reducible rfl) ?_ | refine pl_rd (by simp only [List.getD_cons_succ, List.getD_cons_zero]; rfl) _ (by rfl) (fun W hW => by have hc := kcell hW; clear hW; go_simp; with_reducible rfl) ?_); simp only [Act.put, List.setIfInBounds_toArray, List.set_cons_zero, List.set_cons_succ])
                refine pl_grow (by simp only [List.getD_cons_succ, List.getD_cons_zero]; rfl) ?_
                go_wp2_with (go_at_call 17; ((with_reducible refine (equal04_any v14 _ _ _ w14 (fun _ => True) H14.out.2 (HX.out.2.2.2.2.2.new ((Kept.refl No ww).drew.trans H14.out.1))).mono ?_); rw [equal04_refl]; rintro e w15 ⟨rfl, hk15⟩))
                refine GPost.mk hk15 ?_
                have H15 : Hid (Pl w w15 b rb mb ib N f s R' R' G A6 c6) := HXd.out.new (H14.out.1.trans hk15)
                clear hk15
                repeat ((first | refine pl_pur (by simp only [List.getD_cons_succ, List.getD_cons_zero]; rfl) _ (by rfl) (fun W => by go_simp; with_reducible rfl) ?_ | refine pl_rd (by simp only [List.getD_cons_succ, List.getD_cons_zero]; rfl) _ (by rfl) (fun W hW => by have hc := kcell hW; clear hW; go_simp; with_reducible rfl) ?_); simp only [Act.put, List.setIfInBounds_toArray, List.set_cons_zero, List.set_cons_succ])
                refine pl_fin ?_
                go_wp2
                have HPW : Hid (∀ W, Kept No w15 W → Pl w W b rb mb ib N f s R' R' G A6 c6 ∧ W.cell? ⟨mb, 0, none⟩ = some (.slice A6 N c6) ∧ (∀ i u, [Value.int .u8 f, .int .u64 s][i]? = some u → W.cell? ⟨ib, 0 + i, none⟩ = some u)) := fun W hW => by
                  have hP := H15.out.new hW
                  refine ⟨hP, (heap_one hP.m).1, fun i u hu => ?_⟩
                  match i with
                  | 0 => have e : Value.int .u8 f = u := by simpa using hu
                         subst e; exact hP.c0
                  | 1 => have e : Value.int .u64 s = u := by simpa using hu
                         subst e; exact hP.c1
                  | i + 2 => simp at hu
                have HWR : Hid (Wide N R' ∧ riseAll N R' = mostM R' ∧ R'.length = N) := by
                  have hl := H15.out.o.m.len
                  refine ⟨H15.out.o.m.wide, riseAll_most H15.out.o.m.wide (fun e => by rw [e] at hl; simp at hl; omega) (fun r hr x hx => ?_), hl⟩
                  obtain ⟨i, hi⟩ := List.mem_iff_getElem?.1 hr
                  obtain ⟨_, _, _, _, _, _, _, _, _, _, _, _, hK⟩ := row_at H15.out.rs hi
                  exact (inr_u64.1 ((kRow_sl hK).2.1.inr x hx)).1
                have K15 : Hid (Kept No w15 w15.drew) := (Kept.refl _ _).drew
                have q15 := (HPW.out w15.drew K15.out).2.1
                clear f1 hcell1 hy0 hy1 hy2 hc13 hy13
                refine wp_region_plan No (.pur 0 (.rd 2 (.grow 1 (.grow 3 (.grow 4 (.pur 5 (.pur 6 (.pur 7 (.rd 9 (.grow 8 (.grow 10 (.pur 11 (.pur 12 (.pur 13 (.pur 14 (.rd 16 (.grow 15 (.grow 17 (.grow 18 (.pur 19 (.pur 20 (.pur 21 (.pur 22 (.rd 23 (.rd 25 (.rd 26 (.grow 24 (.grow 27 (.grow 28 (.pur 29 (.pur 30 .fin))))))))))))))))))))))))))))))) [] mixed (by kernel_rfl) ?_
                repeat ((first | refine pl_pur (by simp only [List.getD_cons_succ, List.getD_cons_zero]; rfl) _ (by rfl) (fun W => by go_simp; with_reducible rfl) ?_ | refine pl_rd (by simp only [List.getD_cons_succ, List.getD_cons_zero]; rfl) _ (by rfl) (fun W hW => by have hc := hW.cell (q15) id; clear hW; go_simp; with_reducible rfl) ?_); simp only [Act.put, List.setIfInBounds_toArray, List.set_cons_zero, List.set_cons_succ])
                refine pl_grow (by simp only [List.getD_cons_succ, List.getD_cons_zero]; rfl) ?_
                go_wp2_with (go_at_call 18; ((with_reducible refine (stable_any w15.drew (HPW.out _ K15.out).1.o.m).mono ?_); rintro e w16 ⟨v16, rfl, hs16, hk16⟩))
                refine GPost.mk hk16 ?_
                have K16 : Hid (Kept No w15 w16 ∧ Sl (kI .u64) w16 (fun _ => True) v16 (stableM N R')) := ⟨K15.out.trans hk16, hs16.mono fun _ _ _ => trivial⟩
                clear hk16 hs16 q15
                refine pl_grow (by simp only [List.getD_cons_succ, List.getD_cons_zero]; rfl) ?_
                go_wp2_with (go_at_call 32; ((with_reducible refine (stable18_any A6 N c6 R' w16 _ (HPW.out _ K16.out.1).1.rs HWR.out.2.2 hN1.1 hN1.2 HWR.out.1).mono ?_); rintro e w17 ⟨v17, rfl, hs17, hk17⟩))
                refine GPost.mk hk17 ?_
                have K17 : Hid (Kept No w15 w17 ∧ Sl (kI .u64) w17 (fun _ => True) v16 (stableM N R') ∧ Sl (kI .u64) w17 (fun _ => True) v17 (stableM N R')) := ⟨K16.out.1.trans hk17, K16.out.2.new hk17, hs17.mono fun _ _ _ => trivial⟩
                clear hk17 hs17
                refine pl_grow (by simp only [List.getD_cons_succ, List.getD_cons_zero]; rfl) ?_
                go_wp2_with (go_at_call 17; ((with_reducible refine (equal04_any v16 v17 _ _ w17 _ K17.out.2.1 K17.out.2.2).mono ?_); rw [equal04_refl]; rintro e w18 ⟨rfl, hk18⟩))
                refine GPost.mk hk18 ?_
                have K18 : Hid (Kept No w15 w18) := K17.out.1.trans hk18
                have q18 := (HPW.out w18 K18.out).2.1
                clear hk18
                repeat ((first | refine pl_pur (by simp only [List.getD_cons_succ, List.getD_cons_zero]; rfl) _ (by rfl) (fun W => by go_simp; with_reducible rfl) ?_ | refine pl_rd (by simp only [List.getD_cons_succ, List.getD_cons_zero]; rfl) _ (by rfl) (fun W hW => by have hc := hW.cell (q18) id; clear hW; go_simp; with_reducible rfl) ?_); simp only [Act.put, List.setIfInBounds_toArray, List.set_cons_zero, List.set_cons_succ])
                refine pl_grow (by simp only [List.getD_cons_succ, List.getD_cons_zero]; rfl) ?_
                go_wp2_with (go_at_call 19; ((with_reducible refine (least_any w18 (HPW.out _ K18.out).1.o.m).mono ?_); rintro e w19 ⟨rfl, hk19⟩))
                obtain ⟨M0, hM0⟩ : ∃ M, M = leastM R' := ⟨_, rfl⟩
                rw [← hM0]
                have HM0 : Hid (M0 = leastM R') := hM0
                refine GPost.mk hk19 ?_
                have K19 : Hid (Kept No w15 w19) := K18.out.trans hk19
                clear hk19 q18 hM0
                refine pl_grow (by simp only [List.getD_cons_succ, List.getD_cons_zero]; rfl) ?_
                go_wp2_with (go_at_call 33; ((with_reducible refine (least18_any A6 N c6 R' w19 _ (HPW.out _ K19.out).1.rs HWR.out.2.2 hN1.2).mono ?_); rw [← HM0.out]; rintro e w20 ⟨rfl, hk20⟩))
                refine GPost.mk hk20 ?_
                have K20 : Hid (Kept No w15 w20) := K19.out.trans hk20
                have q20 := (HPW.out w20 K20.out).2.1
                clear hk20
                repeat ((first | refine pl_pur (by simp only [List.getD_cons_succ, List.getD_cons_zero]; rfl) _ (by rfl) (fun W => by go_simp; with_reducible rfl) ?_ | refine pl_rd (by simp only [List.getD_cons_succ, List.getD_cons_zero]; rfl) _ (by rfl) (fun W hW => by have hc := hW.cell (q20) id; clear hW; go_simp; with_reducible rfl) ?_); simp only [Act.put, List.setIfInBounds_toArray, List.set_cons_zero, List.set_cons_succ])
                refine pl_grow (by simp only [List.getD_cons_succ, List.getD_cons_zero]; rfl) ?_
                go_wp2_with (go_at_call 20; ((with_reducible refine (most_any w20 (HPW.out _ K20.out).1.o.m).mono ?_); rintro e w21 ⟨v21, rfl, hs21, hk21⟩))
                refine GPost.mk hk21 ?_
                have K21 : Hid (Kept No w15 w21 ∧ Sl (kI .u64) w21 (fun _ => True) v21 (mostM R')) := ⟨K20.out.trans hk21, hs21.mono fun _ _ _ => trivial⟩
                clear hk21 hs21 q20
                refine pl_grow (by simp only [List.getD_cons_succ, List.getD_cons_zero]; rfl) ?_
                go_wp2_with (go_at_call 34; ((with_reducible refine (most18_any A6 N c6 R' w21 _ (HPW.out _ K21.out.1).1.rs HWR.out.2.2 hN1.2).mono ?_); rw [HWR.out.2.1]; rintro e w22 ⟨v22, rfl, hs22, hk22⟩))
                refine GPost.mk hk22 ?_
                have K22 : Hid (Kept No w15 w22 ∧ Sl (kI .u64) w22 (fun _ => True) v21 (mostM R') ∧ Sl (kI .u64) w22 (fun _ => True) v22 (mostM R')) := ⟨K21.out.1.trans hk22, K21.out.2.new hk22, hs22.mono fun _ _ _ => trivial⟩
                clear hk22 hs22
                refine pl_grow (by simp only [List.getD_cons_succ, List.getD_cons_zero]; rfl) ?_
                go_wp2_with (go_at_call 17; ((with_reducible refine (equal04_any v21 v22 _ _ w22 _ K22.out.2.1 K22.out.2.2).mono ?_); rw [equal04_refl]; rintro e w23 ⟨rfl, hk23⟩))
                refine GPost.mk hk23 ?_
                have K23 : Hid (Kept No w15 w23) := K22.out.1.trans hk23
                have q23 := (HPW.out w23 K23.out).2.1
                clear hk23
                repeat ((first | refine pl_pur (by simp only [List.getD_cons_succ, List.getD_cons_zero]; rfl) _ (by rfl) (fun W => by go_simp; with_reducible rfl) ?_ | refine pl_rd (by simp only [List.getD_cons_succ, List.getD_cons_zero]; rfl) _ (by rfl) (fun W hW => by have hc := hW.cell (q23) id; clear hW; go_simp; with_reducible rfl) ?_); simp only [Act.put, List.setIfInBounds_toArray, List.set_cons_zero, List.set_cons_succ])
                refine pl_load_whole (by simp only [List.getD_cons_succ, List.getD_cons_zero]; rfl) (by rfl) (.tmp 5) 40 (by rfl) ib 0 (by rfl) _ agg40 (HPW.out w23 K23.out).2.2 (fun h => h) ?_
                simp only [Act.put, List.setIfInBounds_toArray, List.set_cons_zero, List.set_cons_succ]
                repeat ((first | refine pl_pur (by simp only [List.getD_cons_succ, List.getD_cons_zero]; rfl) _ (by rfl) (fun W => by go_simp; with_reducible rfl) ?_ | refine pl_rd (by simp only [List.getD_cons_succ, List.getD_cons_zero]; rfl) _ (by rfl) (fun W hW => by have hc := hW.cell (q23) id; clear hW; go_simp; with_reducible rfl) ?_); simp only [Act.put, List.setIfInBounds_toArray, List.set_cons_zero, List.set_cons_succ])
                refine pl_load_whole (by simp only [List.getD_cons_succ, List.getD_cons_zero]; rfl) (by rfl) (.tmp 5) 40 (by rfl) ib 0 (by rfl) _ agg40 (HPW.out w23 K23.out).2.2 (fun h => h) ?_
                simp only [Act.put, List.setIfInBounds_toArray, List.set_cons_zero, List.set_cons_succ]
                refine pl_grow (by simp only [List.getD_cons_succ, List.getD_cons_zero]; rfl) ?_
                go_wp2_with (go_at_call 26; ((with_reducible refine (holders_any w23 (HPW.out _ K23.out).1.o.m f s hf).mono ?_); rintro e w24 ⟨v24, rfl, hs24, hk24⟩))
                refine GPost.mk hk24 ?_
                have K24 : Hid (Kept No w15 w24 ∧ Sl (kI .i64) w24 (fun _ => True) v24 (holdersM N R' f s)) := ⟨K23.out.trans hk24, hs24.mono fun _ _ _ => trivial⟩
                clear hk24 hs24 q23
                refine pl_grow (by simp only [List.getD_cons_succ, List.getD_cons_zero]; rfl) ?_
                go_wp2_with (go_at_call 36; ((with_reducible refine (holders18_any A6 N c6 R' w24 _ (HPW.out _ K24.out.1).1.rs HWR.out.2.2 hN1.1 hN1.2 HWR.out.1 f s hf).mono ?_); rintro e w25 ⟨v25, rfl, hs25, hk25⟩))
                refine GPost.mk hk25 ?_
                have K25 : Hid (Kept No w15 w25 ∧ Sl (kI .i64) w25 (fun _ => True) v24 (holdersM N R' f s) ∧ Sl (kI .i64) w25 (fun _ => True) v25 (holdersM N R' f s)) := ⟨K24.out.1.trans hk25, K24.out.2.new hk25, hs25.mono fun _ _ _ => trivial⟩
                clear hk25 hs25
                refine pl_grow (by simp only [List.getD_cons_succ, List.getD_cons_zero]; rfl) ?_
                go_wp2_with (go_at_call 35; ((with_reducible refine (same15_true v24 v25 _ w25 _ K25.out.2.1 K25.out.2.2).mono ?_); rintro e w26 ⟨rfl, hk26⟩))
                refine GPost.mk hk26 ?_
                have K26 : Hid (Kept No w15 w26) := K25.out.1.trans hk26
                clear hk26
                repeat ((first | refine pl_pur (by simp only [List.getD_cons_succ, List.getD_cons_zero]; rfl) _ (by rfl) (fun W => by go_simp; with_reducible rfl) ?_ | refine pl_rd (by simp only [List.getD_cons_succ, List.getD_cons_zero]; rfl) _ (by rfl) (fun W hW => by have hc := kcell hW; clear hW; go_simp; with_reducible rfl) ?_); simp only [Act.put, List.setIfInBounds_toArray, List.set_cons_zero, List.set_cons_succ])
                refine pl_fin ?_
                go_wp2
                go_roundw
                case rel => exact ⟨k + 1, by omega, by go_num, R', G, A6, c6, HT.out.2.1.symm, (HPW.out _ K26.out).1⟩
                case measure => simp [intOf]; omega
              | some r =>
                have hof := of_dec_some H5len hrow
                obtain ⟨q, rfl, hrr, hqN⟩ := row_nat H5len hrow
                have hrow0 : instOf R' q = r.inst ∧ doneOf R' q = r.done ∧ heldOf R' q = r.held := by unfold instOf doneOf heldOf; rw [hrow]; exact ⟨rfl, rfl, rfl⟩
                have HROW : Hid (instOf R' q = r.inst ∧ doneOf R' q = r.done ∧ heldOf R' q = r.held) := hrow0
                have HRR : Hid (R'[q]? = some r) := hrr
                clear hrow hrow0
                go_wp2_with (first
                  | (go_at_call 14; ((with_reducible refine (great_no _ hgx).mono ?_); rintro e w5 ⟨rfl, hk5⟩; have H5 : Hid (Kept (fun k => k = rb ∨ k = mb) (wr.alloc (.cells #[.bool _, .int .i64 _, .int .u64 xi, .slice A0 xd.length c0, .slice A1 xh.length c1] 29)) w5 ∧ Pl w w5 b rb mb ib N f s R R G AM cM) := ⟨hk5.no, HT.out.1.new (((Kept.refl _ wr).alloc _).trans hk5)⟩; clear d0 d1 d2 d3 d4; obtain ⟨f0, f1, f2, f3, f4⟩ := HF.out _ H5.out.1; obtain ⟨m0, _⟩ := heap_one H5.out.2.m; obtain ⟨lm5, lr5, li5⟩ := H5.out.2.lt; have lf5 := World.block_lt_of_cell? w5 _ f1; clear hk5))
                  | (go_at_call 29; go_loud ((with_reducible refine (gone18_any _ N cM (q : Int) R w5 _ H5.out.2.rs H5.out.2.flt H5.out.2.o.m.len hN1.2).mono ?_); rintro e w6 ⟨A6, c6, rfl, hs6, hk6⟩; have H6 : Hid (Sl kRow w6 (fun k => (k ≠ rb ∧ k ≠ mb ∧ k < w5.heap.size) ∨ New w5 w6 k) (.slice A6 N c6) (gone1 R (q : Int)) ∧ Kept No w5 w6 ∧ Pl w w6 b rb mb ib N f s R R G AM cM) := ⟨hs6, hk6, H5.out.2.new hk6⟩; obtain ⟨m0, m1⟩ := heap_one H6.out.2.2.m; obtain ⟨lm6, lr6, li6⟩ := H6.out.2.2.lt; obtain ⟨f0, f1, f2, f3, f4⟩ := HF.out _ (H5.out.1.trans hk6.no); have lf6 := World.block_lt_of_cell? w6 _ f1; clear hs6 hk6))
                  | (go_at_call 15; go_loud (have hT15 := act_gone H5.out.2 w6 A6 c6 (q : Int) HS.out.1 H6.out.1 H6.out.2.1; (with_reducible refine hT15.mono ?_); rintro e w8 ⟨rfl, h8, hk68⟩; clear hT15; have h8 : Pl w w8 b rb mb ib N f s R' R' G A6 c6 := HT.out.2.2 ▸ h8; have H8 : Hid (Pl w w8 b rb mb ib N f s R' R' G A6 c6 ∧ ∀ W, Kept No w8 W → W.cell? ⟨wr.heap.size, 1, none⟩ = some (.int .i64 (q : Int))) := ⟨h8, fun W hW => hW.cell (HF.out _ ((H5.out.1.trans H6.out.2.1.no).trans hk68)).2.1 id⟩; clear f0 f2 f3 f4 m0 m1; have f1 := H8.out.2 w8 (Kept.refl _ _); obtain ⟨m0, _⟩ := heap_one H8.out.1.m; obtain ⟨lm8, lr8, li8⟩ := H8.out.1.lt; have lf8 := World.block_lt_of_cell? w8 _ f1; clear h8 hk68))
                  | (go_at_call 31; go_loud ((with_reducible refine (r18of_any _ N _ (q : Int) _).mono ?_); rw [hof]; rintro e w10 ⟨rfl, hk10⟩; have H10 : Hid (Kept No (w8.alloc (.cells #[.int .u64 0, .slice none 0 0, .slice none 0 0, .bool false] 54)) w10) := hk10; clear f1 m0; have f1 := H8.out.2 w10 (((Kept.refl _ w8).alloc _).trans hk10); have H10P : Hid (Pl w w10 b rb mb ib N f s R' R' G A6 c6) := H8.out.1.new (((Kept.refl _ w8).alloc _).trans hk10); obtain ⟨m0, _⟩ := heap_one H10P.out.m; obtain ⟨⟨y0, y1, y2, y3⟩, _⟩ := box4 (w := w) hk10 (fun h => h); obtain ⟨eb, eo, Ad, cd, Ah, ch, rfl, ebl, e0, e1, e2, e3, hK⟩ := row_at H8.out.1.rs HRR.out; have k810 : Kept No w8 w10 := ((Kept.refl No w8).alloc _).trans hk10; have e0 := k810.cell e0 id; have e1 := k810.cell e1 id; have e2 := k810.cell e2 id; have e3 := k810.cell e3 id; have ebl2 := Nat.lt_of_lt_of_le ebl k810.size; clear k810; have HKr : Hid (kRow.K w8 (fun j => j ≠ rb ∧ j ≠ mb ∧ j < w8.heap.size) r [.int .u64 r.inst, .slice Ad r.done.length cd, .slice Ah r.held.length ch, .bool r.gone]) := hK; clear hK; clear hk10))
                  | ((refine wpList_store_whole (by rfl) (.tmp 13) (.tmp 86) 54 (by rfl) w8.heap.size 0 54 (by rfl) [.int .u64 r.inst, .slice Ad r.done.length cd, .slice Ah r.held.length ch, .bool r.gone] (by rfl) agg54 #[.int .u64 0, .slice none 0 0, .slice none 0 0, .bool false] (H10.out.block _ (by simp) id |>.trans (heap_alloc_new w8 _)) (by simp) (by simp [Value.oneCell']) ?_; intro w11 HW11)))
                have n1 := new_row (z := #[.int .u64 0, .slice none 0 0, .slice none 0 0, .bool false]) (H10.out.block _ (by simp) id |>.trans (heap_alloc_new w8 _)) (by rfl) HW11.out
                have hk811 : Kept No w8 w11 := (((Kept.refl No w8).alloc _).trans H10.out).trans2 (n1.2.2 (fun k => k = w8.heap.size) rfl) (fun i hi e => absurd hi (by have e : i = w8.heap.size := e; omega))
                obtain ⟨Ax, nx, cx, Ay, ny, cy, HX⟩ : ∃ Ax nx cx Ay ny cy, Hid (Pl w w11 b rb mb ib N f s R' R' G (some ⟨eb, eo, none⟩) c6 ∧ w11.cell? ⟨w8.heap.size, 0, none⟩ = some (.int .u64 (instOf R' (q : Int))) ∧ w11.cell? ⟨w8.heap.size, 1, none⟩ = some (.slice Ax nx cx) ∧ w11.cell? ⟨w8.heap.size, 2, none⟩ = some (.slice Ay ny cy) ∧ Sl (kI .u64) w11 (fun _ => True) (.slice Ax nx cx) (doneOf R' (q : Int)) ∧ Sl (kI .u64) w11 (fun _ => True) (.slice Ay ny cy) (heldOf R' (q : Int))) := by
                  rw [HROW.out.1, HROW.out.2.1, HROW.out.2.2]
                  refine ⟨Ad, _, cd, Ah, _, ch, H8.out.1.new hk811, ?_, ?_, ?_, ((kRow_sl HKr.out).1.new hk811).mono fun _ _ _ => trivial, ((kRow_sl HKr.out).2.1.new hk811).mono fun _ _ _ => trivial⟩ <;> rw [cell_of_row _ _ _ _ _ _ n1.1] <;> rfl
                clear f1
                have f1 := H8.out.2 w11 hk811
                obtain ⟨ww, hww⟩ : ∃ ww, ww = w11 := ⟨_, rfl⟩
                rw [← hww] at HX f1 ⊢
                clear hww n1 hk811 HW11 e0 e1 e2 e3 y0 y1 y2 y3 m0 HKr H10 H10P
                have hcell1 : ww.drew.cell? ⟨wr.heap.size, 1, none⟩ = some (.int .i64 (q : Int)) := f1
                have hy0 : ww.drew.cell? ⟨w8.heap.size, 0, none⟩ = some (.int .u64 (instOf R' (q : Int))) := HX.out.2.1
                have hy1 : ww.drew.cell? ⟨w8.heap.size, 1, none⟩ = some (.slice Ax nx cx) := HX.out.2.2.1
                have hy2 : ww.drew.cell? ⟨w8.heap.size, 2, none⟩ = some (.slice Ay ny cy) := HX.out.2.2.2.1
                obtain ⟨I0, hI0⟩ : ∃ I, I = instOf R' (q : Int) := ⟨_, rfl⟩
                rw [← hI0] at hy0
                have HI : Hid (I0 = instOf R' (q : Int)) := hI0
                clear hI0
                have HXd : Hid (Pl w ww.drew b rb mb ib N f s R' R' G (some ⟨eb, eo, none⟩) c6) := HX.out.1.new (Kept.refl _ _).drew
                refine wp_region_plan No (.pur 0 (.pur 1 (.pur 4 (.rd 2 (.rd 5 (.grow 3 (.pur 6 (.pur 7 (.pur 8 (.pur 9 (.pur 12 (.rd 10 (.rd 13 (.grow 11 (.grow 14 (.pur 15 (.pur 16 (.pur 17 (.pur 18 (.pur 19 (.pur 22 (.rd 20 (.rd 23 (.grow 21 (.grow 24 (.pur 25 (.pur 26 .fin))))))))))))))))))))))))))) [] mixed (by kernel_rfl) ?_
                repeat ((first | refine pl_pur (by simp only [List.getD_cons_succ, List.getD_cons_zero]; rfl) _ (by rfl) (fun W => by go_simp; with_reducible rfl) ?_ | refine pl_rd (by simp only [List.getD_cons_succ, List.getD_cons_zero]; rfl) _ (by rfl) (fun W hW => by have hc := hW.cell (hcell1) id; clear hW; go_simp; with_reducible rfl) ?_ | refine pl_rd (by simp only [List.getD_cons_succ, List.getD_cons_zero]; rfl) _ (by rfl) (fun W hW => by have hc := hW.cell (hy0) id; clear hW; go_simp; with_reducible rfl) ?_); simp only [Act.put, List.setIfInBounds_toArray, List.set_cons_zero, List.set_cons_succ])
                refine pl_grow (by simp only [List.getD_cons_succ, List.getD_cons_zero]; rfl) ?_
                go_wp2_with (go_at_call 21; ((with_reducible refine (inst_any ww.drew HXd.out.o.m (q : Int)).mono ?_); rintro e w12 ⟨rfl, rfl⟩))
                rw [← HI.out]
                refine GPost.mk (Kept.refl _ _) ?_
                repeat ((first | refine pl_pur (by simp only [List.getD_cons_succ, List.getD_cons_zero]; rfl) _ (by rfl) (fun W => by go_simp; with_reducible rfl) ?_ | refine pl_rd (by simp only [List.getD_cons_succ, List.getD_cons_zero]; rfl) _ (by rfl) (fun W hW => by have hc := hW.cell (hcell1) id; clear hW; go_simp; with_reducible rfl) ?_ | refine pl_rd (by simp only [List.getD_cons_succ, List.getD_cons_zero]; rfl) _ (by rfl) (fun W hW => by have hc := hW.cell (hy1) id; clear hW; go_simp; with_reducible rfl) ?_); simp only [Act.put, List.setIfInBounds_toArray, List.set_cons_zero, List.set_cons_succ])
                refine pl_grow (by simp only [List.getD_cons_succ, List.getD_cons_zero]; rfl) ?_
                go_wp2_with (go_at_call 22; ((with_reducible refine (done_any ww.drew HXd.out.o.m (q : Int)).mono ?_); rintro e w12 ⟨v12, rfl, hs12, hk12⟩))
                refine GPost.mk hk12 ?_
                have H12 : Hid (Kept No ww.drew w12 ∧ Sl (kI .u64) w12 (fun _ => True) v12 (doneOf R' (q : Int))) := ⟨hk12, hs12.mono fun _ _ _ => trivial⟩
                clear hk12 hs12
                repeat ((first | refine pl_pur (by simp only [List.getD_cons_succ, List.getD_cons_zero]; rfl) _ (by rfl) (fun W => by go_simp; with_reducible rfl) ?_ | refine pl_rd (by simp only [List.getD_cons_succ, List.getD_cons_zero]; rfl) _ (by rfl) (fun W hW => by have hc := kcell hW; clear hW; go_simp; with_reducible rfl) ?_); simp only [Act.put, List.setIfInBounds_toArray, List.set_cons_zero, List.set_cons_succ])
                refine pl_grow (by simp only [List.getD_cons_succ, List.getD_cons_zero]; rfl) ?_
                go_wp2_with (go_at_call 17; ((with_reducible refine (equal04_any v12 _ _ _ w12 (fun _ => True) H12.out.2 (HX.out.2.2.2.2.1.new ((Kept.refl No ww).drew.trans H12.out.1))).mono ?_); rw [equal04_refl]; rintro e w13 ⟨rfl, hk13⟩))
                refine GPost.mk hk13 ?_
                have H13 : Hid (Kept No ww.drew w13) := H12.out.1.trans hk13
                have hc13 := H13.out.cell hcell1 id
                have hy13 := H13.out.cell hy2 id
                clear hk13
                repeat ((first | refine pl_pur (by simp only [List.getD_cons_succ, List.getD_cons_zero]; rfl) _ (by rfl) (fun W => by go_simp; with_reducible rfl) ?_ | refine pl_rd (by simp only [List.getD_cons_succ, List.getD_cons_zero]; rfl) _ (by rfl) (fun W hW => by have hc := hW.cell (hc13) id; clear hW; go_simp; with_reducible rfl) ?_ | refine pl_rd (by simp only [List.getD_cons_succ, List.getD_cons_zero]; rfl) _ (by rfl) (fun W hW => by have hc := hW.cell (hy13) id; clear hW; go_simp; with_reducible rfl) ?_); simp only [Act.put, List.setIfInBounds_toArray, List.set_cons_zero, List.set_cons_succ])
                refine pl_grow (by simp only [List.getD_cons_succ, List.getD_cons_zero]; rfl) ?_
                go_wp2_with (go_at_call 23; ((with_reducible refine (held_any w13 (HXd.out.o.m.new H13.out) (q : Int)).mono ?_); rintro e w14 ⟨v14, rfl, hs14, hk14⟩))
                refine GPost.mk hk14 ?_
                have H14 : Hid (Kept No ww.drew w14 ∧ Sl (kI .u64) w14 (fun _ => True) v14 (heldOf R' (q : Int))) := ⟨H13.out.trans hk14, hs14.mono fun _ _ _ => trivial⟩
                clear hk14 hs14
                repeat ((first | refine pl_pur (by simp only [List.getD_cons_succ, List.getD_cons_zero]; rfl) _ (by rfl) (fun W => by go_simp; with_reducible rfl) ?_ | refine pl_rd (by simp only [List.getD_cons_succ, List.getD_cons_zero]; rfl) _ (by rfl) (fun W hW => by have hc := kcell hW; clear hW; go_simp; with_reducible rfl) ?_); simp only [Act.put, List.setIfInBounds_toArray, List.set_cons_zero, List.set_cons_succ])
                refine pl_grow (by simp only [List.getD_cons_succ, List.getD_cons_zero]; rfl) ?_
                go_wp2_with (go_at_call 17; ((with_reducible refine (equal04_any v14 _ _ _ w14 (fun _ => True) H14.out.2 (HX.out.2.2.2.2.2.new ((Kept.refl No ww).drew.trans H14.out.1))).mono ?_); rw [equal04_refl]; rintro e w15 ⟨rfl, hk15⟩))
                refine GPost.mk hk15 ?_
                have H15 : Hid (Pl w w15 b rb mb ib N f s R' R' G (some ⟨eb, eo, none⟩) c6) := HXd.out.new (H14.out.1.trans hk15)
                clear hk15
                repeat ((first | refine pl_pur (by simp only [List.getD_cons_succ, List.getD_cons_zero]; rfl) _ (by rfl) (fun W => by go_simp; with_reducible rfl) ?_ | refine pl_rd (by simp only [List.getD_cons_succ, List.getD_cons_zero]; rfl) _ (by rfl) (fun W hW => by have hc := kcell hW; clear hW; go_simp; with_reducible rfl) ?_); simp only [Act.put, List.setIfInBounds_toArray, List.set_cons_zero, List.set_cons_succ])
                refine pl_fin ?_
                go_wp2
                have HPW : Hid (∀ W, Kept No w15 W → Pl w W b rb mb ib N f s R' R' G (some ⟨eb, eo, none⟩) c6 ∧ W.cell? ⟨mb, 0, none⟩ = some (.slice (some ⟨eb, eo, none⟩) N c6) ∧ (∀ i u, [Value.int .u8 f, .int .u64 s][i]? = some u → W.cell? ⟨ib, 0 + i, none⟩ = some u)) := fun W hW => by
                  have hP := H15.out.new hW
                  refine ⟨hP, (heap_one hP.m).1, fun i u hu => ?_⟩
                  match i with
                  | 0 => have e : Value.int .u8 f = u := by simpa using hu
                         subst e; exact hP.c0
                  | 1 => have e : Value.int .u64 s = u := by simpa using hu
                         subst e; exact hP.c1
                  | i + 2 => simp at hu
                have HWR : Hid (Wide N R' ∧ riseAll N R' = mostM R' ∧ R'.length = N) := by
                  have hl := H15.out.o.m.len
                  refine ⟨H15.out.o.m.wide, riseAll_most H15.out.o.m.wide (fun e => by rw [e] at hl; simp at hl; omega) (fun r hr x hx => ?_), hl⟩
                  obtain ⟨i, hi⟩ := List.mem_iff_getElem?.1 hr
                  obtain ⟨_, _, _, _, _, _, _, _, _, _, _, _, hK⟩ := row_at H15.out.rs hi
                  exact (inr_u64.1 ((kRow_sl hK).2.1.inr x hx)).1
                have K15 : Hid (Kept No w15 w15.drew) := (Kept.refl _ _).drew
                have q15 := (HPW.out w15.drew K15.out).2.1
                clear f1 hcell1 hy0 hy1 hy2 hc13 hy13
                refine wp_region_plan No (.pur 0 (.rd 2 (.grow 1 (.grow 3 (.grow 4 (.pur 5 (.pur 6 (.pur 7 (.rd 9 (.grow 8 (.grow 10 (.pur 11 (.pur 12 (.pur 13 (.pur 14 (.rd 16 (.grow 15 (.grow 17 (.grow 18 (.pur 19 (.pur 20 (.pur 21 (.pur 22 (.rd 23 (.rd 25 (.rd 26 (.grow 24 (.grow 27 (.grow 28 (.pur 29 (.pur 30 .fin))))))))))))))))))))))))))))))) [] mixed (by kernel_rfl) ?_
                repeat ((first | refine pl_pur (by simp only [List.getD_cons_succ, List.getD_cons_zero]; rfl) _ (by rfl) (fun W => by go_simp; with_reducible rfl) ?_ | refine pl_rd (by simp only [List.getD_cons_succ, List.getD_cons_zero]; rfl) _ (by rfl) (fun W hW => by have hc := hW.cell (q15) id; clear hW; go_simp; with_reducible rfl) ?_); simp only [Act.put, List.setIfInBounds_toArray, List.set_cons_zero, List.set_cons_succ])
                refine pl_grow (by simp only [List.getD_cons_succ, List.getD_cons_zero]; rfl) ?_
                go_wp2_with (go_at_call 18; ((with_reducible refine (stable_any w15.drew (HPW.out _ K15.out).1.o.m).mono ?_); rintro e w16 ⟨v16, rfl, hs16, hk16⟩))
                refine GPost.mk hk16 ?_
                have K16 : Hid (Kept No w15 w16 ∧ Sl (kI .u64) w16 (fun _ => True) v16 (stableM N R')) := ⟨K15.out.trans hk16, hs16.mono fun _ _ _ => trivial⟩
                clear hk16 hs16 q15
                refine pl_grow (by simp only [List.getD_cons_succ, List.getD_cons_zero]; rfl) ?_
                go_wp2_with (go_at_call 32; ((with_reducible refine (stable18_any (some ⟨eb, eo, none⟩) N c6 R' w16 _ (HPW.out _ K16.out.1).1.rs HWR.out.2.2 hN1.1 hN1.2 HWR.out.1).mono ?_); rintro e w17 ⟨v17, rfl, hs17, hk17⟩))
                refine GPost.mk hk17 ?_
                have K17 : Hid (Kept No w15 w17 ∧ Sl (kI .u64) w17 (fun _ => True) v16 (stableM N R') ∧ Sl (kI .u64) w17 (fun _ => True) v17 (stableM N R')) := ⟨K16.out.1.trans hk17, K16.out.2.new hk17, hs17.mono fun _ _ _ => trivial⟩
                clear hk17 hs17
                refine pl_grow (by simp only [List.getD_cons_succ, List.getD_cons_zero]; rfl) ?_
                go_wp2_with (go_at_call 17; ((with_reducible refine (equal04_any v16 v17 _ _ w17 _ K17.out.2.1 K17.out.2.2).mono ?_); rw [equal04_refl]; rintro e w18 ⟨rfl, hk18⟩))
                refine GPost.mk hk18 ?_
                have K18 : Hid (Kept No w15 w18) := K17.out.1.trans hk18
                have q18 := (HPW.out w18 K18.out).2.1
                clear hk18
                repeat ((first | refine pl_pur (by simp only [List.getD_cons_succ, List.getD_cons_zero]; rfl) _ (by rfl) (fun W => by go_simp; with_reducible rfl) ?_ | refine pl_rd (by simp only [List.getD_cons_succ, List.getD_cons_zero]; rfl) _ (by rfl) (fun W hW => by have hc := hW.cell (q18) id; clear hW; go_simp; with_reducible rfl) ?_); simp only [Act.put, List.setIfInBounds_toArray, List.set_cons_zero, List.set_cons_succ])
                refine pl_grow (by simp only [List.getD_cons_succ, List.getD_cons_zero]; rfl) ?_
                go_wp2_with (go_at_call 19; ((with_reducible refine (least_any w18 (HPW.out _ K18.out).1.o.m).mono ?_); rintro e w19 ⟨rfl, hk19⟩))
                obtain ⟨M0, hM0⟩ : ∃ M, M = leastM R' := ⟨_, rfl⟩
                rw [← hM0]
                have HM0 : Hid (M0 = leastM R') := hM0
                refine GPost.mk hk19 ?_
                have K19 : Hid (Kept No w15 w19) := K18.out.trans hk19
                clear hk19 q18 hM0
                refine pl_grow (by simp only [List.getD_cons_succ, List.getD_cons_zero]; rfl) ?_
                go_wp2_with (go_at_call 33; ((with_reducible refine (least18_any (some ⟨eb, eo, none⟩) N c6 R' w19 _ (HPW.out _ K19.out).1.rs HWR.out.2.2 hN1.2).mono ?_); rw [← HM0.out]; rintro e w20 ⟨rfl, hk20⟩))
                refine GPost.mk hk20 ?_
                have K20 : Hid (Kept No w15 w20) := K19.out.trans hk20
                have q20 := (HPW.out w20 K20.out).2.1
                clear hk20
                repeat ((first | refine pl_pur (by simp only [List.getD_cons_succ, List.getD_cons_zero]; rfl) _ (by rfl) (fun W => by go_simp; with_reducible rfl) ?_ | refine pl_rd (by simp only [List.getD_cons_succ, List.getD_cons_zero]; rfl) _ (by rfl) (fun W hW => by have hc := hW.cell (q20) id; clear hW; go_simp; with_reducible rfl) ?_); simp only [Act.put, List.setIfInBounds_toArray, List.set_cons_zero, List.set_cons_succ])
                refine pl_grow (by simp only [List.getD_cons_succ, List.getD_cons_zero]; rfl) ?_
                go_wp2_with (go_at_call 20; ((with_reducible refine (most_any w20 (HPW.out _ K20.out).1.o.m).mono ?_); rintro e w21 ⟨v21, rfl, hs21, hk21⟩))
                refine GPost.mk hk21 ?_
                have K21 : Hid (Kept No w15 w21 ∧ Sl (kI .u64) w21 (fun _ => True) v21 (mostM R')) := ⟨K20.out.trans hk21, hs21.mono fun _ _ _ => trivial⟩
                clear hk21 hs21 q20
                refine pl_grow (by simp only [List.getD_cons_succ, List.getD_cons_zero]; rfl) ?_
                go_wp2_with (go_at_call 34; ((with_reducible refine (most18_any (some ⟨eb, eo, none⟩) N c6 R' w21 _ (HPW.out _ K21.out.1).1.rs HWR.out.2.2 hN1.2).mono ?_); rw [HWR.out.2.1]; rintro e w22 ⟨v22, rfl, hs22, hk22⟩))
                refine GPost.mk hk22 ?_
                have K22 : Hid (Kept No w15 w22 ∧ Sl (kI .u64) w22 (fun _ => True) v21 (mostM R') ∧ Sl (kI .u64) w22 (fun _ => True) v22 (mostM R')) := ⟨K21.out.1.trans hk22, K21.out.2.new hk22, hs22.mono fun _ _ _ => trivial⟩
                clear hk22 hs22
                refine pl_grow (by simp only [List.getD_cons_succ, List.getD_cons_zero]; rfl) ?_
                go_wp2_with (go_at_call 17; ((with_reducible refine (equal04_any v21 v22 _ _ w22 _ K22.out.2.1 K22.out.2.2).mono ?_); rw [equal04_refl]; rintro e w23 ⟨rfl, hk23⟩))
                refine GPost.mk hk23 ?_
                have K23 : Hid (Kept No w15 w23) := K22.out.1.trans hk23
                have q23 := (HPW.out w23 K23.out).2.1
                clear hk23
                repeat ((first | refine pl_pur (by simp only [List.getD_cons_succ, List.getD_cons_zero]; rfl) _ (by rfl) (fun W => by go_simp; with_reducible rfl) ?_ | refine pl_rd (by simp only [List.getD_cons_succ, List.getD_cons_zero]; rfl) _ (by rfl) (fun W hW => by have hc := hW.cell (q23) id; clear hW; go_simp; with_reducible rfl) ?_); simp only [Act.put, List.setIfInBounds_toArray, List.set_cons_zero, List.set_cons_succ])
                refine pl_load_whole (by simp only [List.getD_cons_succ, List.getD_cons_zero]; rfl) (by rfl) (.tmp 5) 40 (by rfl) ib 0 (by rfl) _ agg40 (HPW.out w23 K23.out).2.2 (fun h => h) ?_
                simp only [Act.put, List.setIfInBounds_toArray, List.set_cons_zero, List.set_cons_succ]
                repeat ((first | refine pl_pur (by simp only [List.getD_cons_succ, List.getD_cons_zero]; rfl) _ (by rfl) (fun W => by go_simp; with_reducible rfl) ?_ | refine pl_rd (by simp only [List.getD_cons_succ, List.getD_cons_zero]; rfl) _ (by rfl) (fun W hW => by have hc := hW.cell (q23) id; clear hW; go_simp; with_reducible rfl) ?_); simp only [Act.put, List.setIfInBounds_toArray, List.set_cons_zero, List.set_cons_succ])
                refine pl_load_whole (by simp only [List.getD_cons_succ, List.getD_cons_zero]; rfl) (by rfl) (.tmp 5) 40 (by rfl) ib 0 (by rfl) _ agg40 (HPW.out w23 K23.out).2.2 (fun h => h) ?_
                simp only [Act.put, List.setIfInBounds_toArray, List.set_cons_zero, List.set_cons_succ]
                refine pl_grow (by simp only [List.getD_cons_succ, List.getD_cons_zero]; rfl) ?_
                go_wp2_with (go_at_call 26; ((with_reducible refine (holders_any w23 (HPW.out _ K23.out).1.o.m f s hf).mono ?_); rintro e w24 ⟨v24, rfl, hs24, hk24⟩))
                refine GPost.mk hk24 ?_
                have K24 : Hid (Kept No w15 w24 ∧ Sl (kI .i64) w24 (fun _ => True) v24 (holdersM N R' f s)) := ⟨K23.out.trans hk24, hs24.mono fun _ _ _ => trivial⟩
                clear hk24 hs24 q23
                refine pl_grow (by simp only [List.getD_cons_succ, List.getD_cons_zero]; rfl) ?_
                go_wp2_with (go_at_call 36; ((with_reducible refine (holders18_any (some ⟨eb, eo, none⟩) N c6 R' w24 _ (HPW.out _ K24.out.1).1.rs HWR.out.2.2 hN1.1 hN1.2 HWR.out.1 f s hf).mono ?_); rintro e w25 ⟨v25, rfl, hs25, hk25⟩))
                refine GPost.mk hk25 ?_
                have K25 : Hid (Kept No w15 w25 ∧ Sl (kI .i64) w25 (fun _ => True) v24 (holdersM N R' f s) ∧ Sl (kI .i64) w25 (fun _ => True) v25 (holdersM N R' f s)) := ⟨K24.out.1.trans hk25, K24.out.2.new hk25, hs25.mono fun _ _ _ => trivial⟩
                clear hk25 hs25
                refine pl_grow (by simp only [List.getD_cons_succ, List.getD_cons_zero]; rfl) ?_
                go_wp2_with (go_at_call 35; ((with_reducible refine (same15_true v24 v25 _ w25 _ K25.out.2.1 K25.out.2.2).mono ?_); rintro e w26 ⟨rfl, hk26⟩))
                refine GPost.mk hk26 ?_
                have K26 : Hid (Kept No w15 w26) := K25.out.1.trans hk26
                clear hk26
                repeat ((first | refine pl_pur (by simp only [List.getD_cons_succ, List.getD_cons_zero]; rfl) _ (by rfl) (fun W => by go_simp; with_reducible rfl) ?_ | refine pl_rd (by simp only [List.getD_cons_succ, List.getD_cons_zero]; rfl) _ (by rfl) (fun W hW => by have hc := kcell hW; clear hW; go_simp; with_reducible rfl) ?_); simp only [Act.put, List.setIfInBounds_toArray, List.set_cons_zero, List.set_cons_succ])
                refine pl_fin ?_
                go_wp2
                go_roundw
                case rel => exact ⟨k + 1, by omega, by go_num, R', G, (some ⟨eb, eo, none⟩), c6, HT.out.2.1.symm, (HPW.out _ K26.out).1⟩
                case measure => simp [intOf]; omega
            | false =>
              cases hrow : rowAt R' xp with
              | none =>
                have hof := of_dec_none H5len hrow
                have hrow0 : instOf R' xp = 0 ∧ doneOf R' xp = [] ∧ heldOf R' xp = [] := by unfold instOf doneOf heldOf; rw [hrow]; exact ⟨rfl, rfl, rfl⟩
                have HROW : Hid (instOf R' xp = 0 ∧ doneOf R' xp = [] ∧ heldOf R' xp = []) := hrow0
                clear hrow hrow0
                go_wp2_with (first
                  | (go_at_call 14; ((with_reducible refine (great_no _ hgx).mono ?_); rintro e w5 ⟨rfl, hk5⟩; have H5 : Hid (Kept (fun k => k = rb ∨ k = mb) (wr.alloc (.cells #[.bool _, .int .i64 _, .int .u64 xi, .slice A0 xd.length c0, .slice A1 xh.length c1] 29)) w5 ∧ Pl w w5 b rb mb ib N f s R R G AM cM) := ⟨hk5.no, HT.out.1.new (((Kept.refl _ wr).alloc _).trans hk5)⟩; clear d0 d1 d2 d3 d4; obtain ⟨f0, f1, f2, f3, f4⟩ := HF.out _ H5.out.1; obtain ⟨m0, _⟩ := heap_one H5.out.2.m; obtain ⟨lm5, lr5, li5⟩ := H5.out.2.lt; have lf5 := World.block_lt_of_cell? w5 _ f1; clear hk5))
                  | (go_at_call 30; go_loud (have hT30 := tell18_any _ N cM xp xi _ _ xd xh R w5 _ (Old w) H5.out.2.rs H5.out.2.flt H5.out.2.o.m.len hN1.2 H5.out.2.o.m.wide HS.out.2.1 (HS.out.2.2.1.new H5.out.2.o.k) (HS.out.2.2.2.new H5.out.2.o.k); (with_reducible refine hT30.mono ?_); rintro e w6 ⟨A6, c6, rfl, hs6, hk6⟩; clear hT30; have H6 : Hid (Sl kRow w6 (fun k => (k ≠ rb ∧ k ≠ mb ∧ k < w5.heap.size) ∨ New w5 w6 k) (.slice A6 N c6) (tell R xp xi xd xh) ∧ Kept No w5 w6 ∧ Pl w w6 b rb mb ib N f s R R G AM cM) := ⟨hs6, hk6, H5.out.2.new hk6⟩; obtain ⟨m0, m1⟩ := heap_one H6.out.2.2.m; obtain ⟨lm6, lr6, li6⟩ := H6.out.2.2.lt; obtain ⟨f0, f1, f2, f3, f4⟩ := HF.out _ (H5.out.1.trans hk6.no); have lf6 := World.block_lt_of_cell? w6 _ f1; clear hs6 hk6))
                  | (go_at_call 16; go_loud (have hT16 := act_tell H5.out.2 w6 A6 c6 xp xi _ _ xd xh HS.out.2.1 HS.out.2.2.1 HS.out.2.2.2 hxl.1 hxl.2 H6.out.1 H6.out.2.1; (with_reducible refine hT16.mono ?_); rintro e w8 ⟨rfl, ⟨G8, h8⟩, hk68⟩; clear hT16; have h8 : Pl w w8 b rb mb ib N f s R' R' G8 A6 c6 := HT.out.2.2 ▸ h8; have H8 : Hid (Pl w w8 b rb mb ib N f s R' R' G8 A6 c6 ∧ ∀ W, Kept No w8 W → W.cell? ⟨wr.heap.size, 1, none⟩ = some (.int .i64 xp)) := ⟨h8, fun W hW => hW.cell (HF.out _ ((H5.out.1.trans H6.out.2.1.no).trans hk68)).2.1 id⟩; clear f0 f2 f3 f4 m0 m1; have f1 := H8.out.2 w8 (Kept.refl _ _); obtain ⟨m0, _⟩ := heap_one H8.out.1.m; obtain ⟨lm8, lr8, li8⟩ := H8.out.1.lt; have lf8 := World.block_lt_of_cell? w8 _ f1; clear h8 hk68))
                  | (go_at_call 31; go_loud ((with_reducible refine (r18of_any _ N _ xp _).mono ?_); rw [hof]; rintro e w10 ⟨rfl, hk10⟩; have H10 : Hid (Kept No (w8.alloc (.cells #[.int .u64 0, .slice none 0 0, .slice none 0 0, .bool false] 54)) w10) := hk10; clear f1 m0; have f1 := H8.out.2 w10 (((Kept.refl _ w8).alloc _).trans hk10); have H10P : Hid (Pl w w10 b rb mb ib N f s R' R' G8 A6 c6) := H8.out.1.new (((Kept.refl _ w8).alloc _).trans hk10); obtain ⟨m0, _⟩ := heap_one H10P.out.m; obtain ⟨⟨y0, y1, y2, y3⟩, _⟩ := box4 (w := w) hk10 (fun h => h);  clear hk10)))
                obtain ⟨ww, hww⟩ : ∃ ww, ww = w10 := ⟨_, rfl⟩
                rw [← hww] at H10P f1 y0 y1 y2 ⊢
                clear hww
                obtain ⟨Ax, nx, cx, Ay, ny, cy, HX⟩ : ∃ Ax nx cx Ay ny cy, Hid (Pl w ww b rb mb ib N f s R' R' G8 A6 c6 ∧ ww.cell? ⟨w8.heap.size, 0, none⟩ = some (.int .u64 (instOf R' xp)) ∧ ww.cell? ⟨w8.heap.size, 1, none⟩ = some (.slice Ax nx cx) ∧ ww.cell? ⟨w8.heap.size, 2, none⟩ = some (.slice Ay ny cy) ∧ Sl (kI .u64) ww (fun _ => True) (.slice Ax nx cx) (doneOf R' xp) ∧ Sl (kI .u64) ww (fun _ => True) (.slice Ay ny cy) (heldOf R' xp)) := by
                  rw [HROW.out.1, HROW.out.2.1, HROW.out.2.2]
                  exact ⟨none, 0, 0, none, 0, 0, H10P.out, y0, y1, y2, Sl.nil _ _ _, Sl.nil _ _ _⟩
                clear y0 y1 y2 y3 m0
                have hcell1 : ww.drew.cell? ⟨wr.heap.size, 1, none⟩ = some (.int .i64 xp) := f1
                have hy0 : ww.drew.cell? ⟨w8.heap.size, 0, none⟩ = some (.int .u64 (instOf R' xp)) := HX.out.2.1
                have hy1 : ww.drew.cell? ⟨w8.heap.size, 1, none⟩ = some (.slice Ax nx cx) := HX.out.2.2.1
                have hy2 : ww.drew.cell? ⟨w8.heap.size, 2, none⟩ = some (.slice Ay ny cy) := HX.out.2.2.2.1
                obtain ⟨I0, hI0⟩ : ∃ I, I = instOf R' xp := ⟨_, rfl⟩
                rw [← hI0] at hy0
                have HI : Hid (I0 = instOf R' xp) := hI0
                clear hI0
                have HXd : Hid (Pl w ww.drew b rb mb ib N f s R' R' G8 A6 c6) := HX.out.1.new (Kept.refl _ _).drew
                refine wp_region_plan No (.pur 0 (.pur 1 (.pur 4 (.rd 2 (.rd 5 (.grow 3 (.pur 6 (.pur 7 (.pur 8 (.pur 9 (.pur 12 (.rd 10 (.rd 13 (.grow 11 (.grow 14 (.pur 15 (.pur 16 (.pur 17 (.pur 18 (.pur 19 (.pur 22 (.rd 20 (.rd 23 (.grow 21 (.grow 24 (.pur 25 (.pur 26 .fin))))))))))))))))))))))))))) [] mixed (by kernel_rfl) ?_
                repeat ((first | refine pl_pur (by simp only [List.getD_cons_succ, List.getD_cons_zero]; rfl) _ (by rfl) (fun W => by go_simp; with_reducible rfl) ?_ | refine pl_rd (by simp only [List.getD_cons_succ, List.getD_cons_zero]; rfl) _ (by rfl) (fun W hW => by have hc := hW.cell (hcell1) id; clear hW; go_simp; with_reducible rfl) ?_ | refine pl_rd (by simp only [List.getD_cons_succ, List.getD_cons_zero]; rfl) _ (by rfl) (fun W hW => by have hc := hW.cell (hy0) id; clear hW; go_simp; with_reducible rfl) ?_); simp only [Act.put, List.setIfInBounds_toArray, List.set_cons_zero, List.set_cons_succ])
                refine pl_grow (by simp only [List.getD_cons_succ, List.getD_cons_zero]; rfl) ?_
                go_wp2_with (go_at_call 21; ((with_reducible refine (inst_any ww.drew HXd.out.o.m xp).mono ?_); rintro e w12 ⟨rfl, rfl⟩))
                rw [← HI.out]
                refine GPost.mk (Kept.refl _ _) ?_
                repeat ((first | refine pl_pur (by simp only [List.getD_cons_succ, List.getD_cons_zero]; rfl) _ (by rfl) (fun W => by go_simp; with_reducible rfl) ?_ | refine pl_rd (by simp only [List.getD_cons_succ, List.getD_cons_zero]; rfl) _ (by rfl) (fun W hW => by have hc := hW.cell (hcell1) id; clear hW; go_simp; with_reducible rfl) ?_ | refine pl_rd (by simp only [List.getD_cons_succ, List.getD_cons_zero]; rfl) _ (by rfl) (fun W hW => by have hc := hW.cell (hy1) id; clear hW; go_simp; with_reducible rfl) ?_); simp only [Act.put, List.setIfInBounds_toArray, List.set_cons_zero, List.set_cons_succ])
                refine pl_grow (by simp only [List.getD_cons_succ, List.getD_cons_zero]; rfl) ?_
                go_wp2_with (go_at_call 22; ((with_reducible refine (done_any ww.drew HXd.out.o.m xp).mono ?_); rintro e w12 ⟨v12, rfl, hs12, hk12⟩))
                refine GPost.mk hk12 ?_
                have H12 : Hid (Kept No ww.drew w12 ∧ Sl (kI .u64) w12 (fun _ => True) v12 (doneOf R' xp)) := ⟨hk12, hs12.mono fun _ _ _ => trivial⟩
                clear hk12 hs12
                repeat ((first | refine pl_pur (by simp only [List.getD_cons_succ, List.getD_cons_zero]; rfl) _ (by rfl) (fun W => by go_simp; with_reducible rfl) ?_ | refine pl_rd (by simp only [List.getD_cons_succ, List.getD_cons_zero]; rfl) _ (by rfl) (fun W hW => by have hc := kcell hW; clear hW; go_simp; with_reducible rfl) ?_); simp only [Act.put, List.setIfInBounds_toArray, List.set_cons_zero, List.set_cons_succ])
                refine pl_grow (by simp only [List.getD_cons_succ, List.getD_cons_zero]; rfl) ?_
                go_wp2_with (go_at_call 17; ((with_reducible refine (equal04_any v12 _ _ _ w12 (fun _ => True) H12.out.2 (HX.out.2.2.2.2.1.new ((Kept.refl No ww).drew.trans H12.out.1))).mono ?_); rw [equal04_refl]; rintro e w13 ⟨rfl, hk13⟩))
                refine GPost.mk hk13 ?_
                have H13 : Hid (Kept No ww.drew w13) := H12.out.1.trans hk13
                have hc13 := H13.out.cell hcell1 id
                have hy13 := H13.out.cell hy2 id
                clear hk13
                repeat ((first | refine pl_pur (by simp only [List.getD_cons_succ, List.getD_cons_zero]; rfl) _ (by rfl) (fun W => by go_simp; with_reducible rfl) ?_ | refine pl_rd (by simp only [List.getD_cons_succ, List.getD_cons_zero]; rfl) _ (by rfl) (fun W hW => by have hc := hW.cell (hc13) id; clear hW; go_simp; with_reducible rfl) ?_ | refine pl_rd (by simp only [List.getD_cons_succ, List.getD_cons_zero]; rfl) _ (by rfl) (fun W hW => by have hc := hW.cell (hy13) id; clear hW; go_simp; with_reducible rfl) ?_); simp only [Act.put, List.setIfInBounds_toArray, List.set_cons_zero, List.set_cons_succ])
                refine pl_grow (by simp only [List.getD_cons_succ, List.getD_cons_zero]; rfl) ?_
                go_wp2_with (go_at_call 23; ((with_reducible refine (held_any w13 (HXd.out.o.m.new H13.out) xp).mono ?_); rintro e w14 ⟨v14, rfl, hs14, hk14⟩))
                refine GPost.mk hk14 ?_
                have H14 : Hid (Kept No ww.drew w14 ∧ Sl (kI .u64) w14 (fun _ => True) v14 (heldOf R' xp)) := ⟨H13.out.trans hk14, hs14.mono fun _ _ _ => trivial⟩
                clear hk14 hs14
                repeat ((first | refine pl_pur (by simp only [List.getD_cons_succ, List.getD_cons_zero]; rfl) _ (by rfl) (fun W => by go_simp; with_reducible rfl) ?_ | refine pl_rd (by simp only [List.getD_cons_succ, List.getD_cons_zero]; rfl) _ (by rfl) (fun W hW => by have hc := kcell hW; clear hW; go_simp; with_reducible rfl) ?_); simp only [Act.put, List.setIfInBounds_toArray, List.set_cons_zero, List.set_cons_succ])
                refine pl_grow (by simp only [List.getD_cons_succ, List.getD_cons_zero]; rfl) ?_
                go_wp2_with (go_at_call 17; ((with_reducible refine (equal04_any v14 _ _ _ w14 (fun _ => True) H14.out.2 (HX.out.2.2.2.2.2.new ((Kept.refl No ww).drew.trans H14.out.1))).mono ?_); rw [equal04_refl]; rintro e w15 ⟨rfl, hk15⟩))
                refine GPost.mk hk15 ?_
                have H15 : Hid (Pl w w15 b rb mb ib N f s R' R' G8 A6 c6) := HXd.out.new (H14.out.1.trans hk15)
                clear hk15
                repeat ((first | refine pl_pur (by simp only [List.getD_cons_succ, List.getD_cons_zero]; rfl) _ (by rfl) (fun W => by go_simp; with_reducible rfl) ?_ | refine pl_rd (by simp only [List.getD_cons_succ, List.getD_cons_zero]; rfl) _ (by rfl) (fun W hW => by have hc := kcell hW; clear hW; go_simp; with_reducible rfl) ?_); simp only [Act.put, List.setIfInBounds_toArray, List.set_cons_zero, List.set_cons_succ])
                refine pl_fin ?_
                go_wp2
                have HPW : Hid (∀ W, Kept No w15 W → Pl w W b rb mb ib N f s R' R' G8 A6 c6 ∧ W.cell? ⟨mb, 0, none⟩ = some (.slice A6 N c6) ∧ (∀ i u, [Value.int .u8 f, .int .u64 s][i]? = some u → W.cell? ⟨ib, 0 + i, none⟩ = some u)) := fun W hW => by
                  have hP := H15.out.new hW
                  refine ⟨hP, (heap_one hP.m).1, fun i u hu => ?_⟩
                  match i with
                  | 0 => have e : Value.int .u8 f = u := by simpa using hu
                         subst e; exact hP.c0
                  | 1 => have e : Value.int .u64 s = u := by simpa using hu
                         subst e; exact hP.c1
                  | i + 2 => simp at hu
                have HWR : Hid (Wide N R' ∧ riseAll N R' = mostM R' ∧ R'.length = N) := by
                  have hl := H15.out.o.m.len
                  refine ⟨H15.out.o.m.wide, riseAll_most H15.out.o.m.wide (fun e => by rw [e] at hl; simp at hl; omega) (fun r hr x hx => ?_), hl⟩
                  obtain ⟨i, hi⟩ := List.mem_iff_getElem?.1 hr
                  obtain ⟨_, _, _, _, _, _, _, _, _, _, _, _, hK⟩ := row_at H15.out.rs hi
                  exact (inr_u64.1 ((kRow_sl hK).2.1.inr x hx)).1
                have K15 : Hid (Kept No w15 w15.drew) := (Kept.refl _ _).drew
                have q15 := (HPW.out w15.drew K15.out).2.1
                clear f1 hcell1 hy0 hy1 hy2 hc13 hy13
                refine wp_region_plan No (.pur 0 (.rd 2 (.grow 1 (.grow 3 (.grow 4 (.pur 5 (.pur 6 (.pur 7 (.rd 9 (.grow 8 (.grow 10 (.pur 11 (.pur 12 (.pur 13 (.pur 14 (.rd 16 (.grow 15 (.grow 17 (.grow 18 (.pur 19 (.pur 20 (.pur 21 (.pur 22 (.rd 23 (.rd 25 (.rd 26 (.grow 24 (.grow 27 (.grow 28 (.pur 29 (.pur 30 .fin))))))))))))))))))))))))))))))) [] mixed (by kernel_rfl) ?_
                repeat ((first | refine pl_pur (by simp only [List.getD_cons_succ, List.getD_cons_zero]; rfl) _ (by rfl) (fun W => by go_simp; with_reducible rfl) ?_ | refine pl_rd (by simp only [List.getD_cons_succ, List.getD_cons_zero]; rfl) _ (by rfl) (fun W hW => by have hc := hW.cell (q15) id; clear hW; go_simp; with_reducible rfl) ?_); simp only [Act.put, List.setIfInBounds_toArray, List.set_cons_zero, List.set_cons_succ])
                refine pl_grow (by simp only [List.getD_cons_succ, List.getD_cons_zero]; rfl) ?_
                go_wp2_with (go_at_call 18; ((with_reducible refine (stable_any w15.drew (HPW.out _ K15.out).1.o.m).mono ?_); rintro e w16 ⟨v16, rfl, hs16, hk16⟩))
                refine GPost.mk hk16 ?_
                have K16 : Hid (Kept No w15 w16 ∧ Sl (kI .u64) w16 (fun _ => True) v16 (stableM N R')) := ⟨K15.out.trans hk16, hs16.mono fun _ _ _ => trivial⟩
                clear hk16 hs16 q15
                refine pl_grow (by simp only [List.getD_cons_succ, List.getD_cons_zero]; rfl) ?_
                go_wp2_with (go_at_call 32; ((with_reducible refine (stable18_any A6 N c6 R' w16 _ (HPW.out _ K16.out.1).1.rs HWR.out.2.2 hN1.1 hN1.2 HWR.out.1).mono ?_); rintro e w17 ⟨v17, rfl, hs17, hk17⟩))
                refine GPost.mk hk17 ?_
                have K17 : Hid (Kept No w15 w17 ∧ Sl (kI .u64) w17 (fun _ => True) v16 (stableM N R') ∧ Sl (kI .u64) w17 (fun _ => True) v17 (stableM N R')) := ⟨K16.out.1.trans hk17, K16.out.2.new hk17, hs17.mono fun _ _ _ => trivial⟩
                clear hk17 hs17
                refine pl_grow (by simp only [List.getD_cons_succ, List.getD_cons_zero]; rfl) ?_
                go_wp2_with (go_at_call 17; ((with_reducible refine (equal04_any v16 v17 _ _ w17 _ K17.out.2.1 K17.out.2.2).mono ?_); rw [equal04_refl]; rintro e w18 ⟨rfl, hk18⟩))
                refine GPost.mk hk18 ?_
                have K18 : Hid (Kept No w15 w18) := K17.out.1.trans hk18
                have q18 := (HPW.out w18 K18.out).2.1
                clear hk18
                repeat ((first | refine pl_pur (by simp only [List.getD_cons_succ, List.getD_cons_zero]; rfl) _ (by rfl) (fun W => by go_simp; with_reducible rfl) ?_ | refine pl_rd (by simp only [List.getD_cons_succ, List.getD_cons_zero]; rfl) _ (by rfl) (fun W hW => by have hc := hW.cell (q18) id; clear hW; go_simp; with_reducible rfl) ?_); simp only [Act.put, List.setIfInBounds_toArray, List.set_cons_zero, List.set_cons_succ])
                refine pl_grow (by simp only [List.getD_cons_succ, List.getD_cons_zero]; rfl) ?_
                go_wp2_with (go_at_call 19; ((with_reducible refine (least_any w18 (HPW.out _ K18.out).1.o.m).mono ?_); rintro e w19 ⟨rfl, hk19⟩))
                obtain ⟨M0, hM0⟩ : ∃ M, M = leastM R' := ⟨_, rfl⟩
                rw [← hM0]
                have HM0 : Hid (M0 = leastM R') := hM0
                refine GPost.mk hk19 ?_
                have K19 : Hid (Kept No w15 w19) := K18.out.trans hk19
                clear hk19 q18 hM0
                refine pl_grow (by simp only [List.getD_cons_succ, List.getD_cons_zero]; rfl) ?_
                go_wp2_with (go_at_call 33; ((with_reducible refine (least18_any A6 N c6 R' w19 _ (HPW.out _ K19.out).1.rs HWR.out.2.2 hN1.2).mono ?_); rw [← HM0.out]; rintro e w20 ⟨rfl, hk20⟩))
                refine GPost.mk hk20 ?_
                have K20 : Hid (Kept No w15 w20) := K19.out.trans hk20
                have q20 := (HPW.out w20 K20.out).2.1
                clear hk20
                repeat ((first | refine pl_pur (by simp only [List.getD_cons_succ, List.getD_cons_zero]; rfl) _ (by rfl) (fun W => by go_simp; with_reducible rfl) ?_ | refine pl_rd (by simp only [List.getD_cons_succ, List.getD_cons_zero]; rfl) _ (by rfl) (fun W hW => by have hc := hW.cell (q20) id; clear hW; go_simp; with_reducible rfl) ?_); simp only [Act.put, List.setIfInBounds_toArray, List.set_cons_zero, List.set_cons_succ])
                refine pl_grow (by simp only [List.getD_cons_succ, List.getD_cons_zero]; rfl) ?_
                go_wp2_with (go_at_call 20; ((with_reducible refine (most_any w20 (HPW.out _ K20.out).1.o.m).mono ?_); rintro e w21 ⟨v21, rfl, hs21, hk21⟩))
                refine GPost.mk hk21 ?_
                have K21 : Hid (Kept No w15 w21 ∧ Sl (kI .u64) w21 (fun _ => True) v21 (mostM R')) := ⟨K20.out.trans hk21, hs21.mono fun _ _ _ => trivial⟩
                clear hk21 hs21 q20
                refine pl_grow (by simp only [List.getD_cons_succ, List.getD_cons_zero]; rfl) ?_
                go_wp2_with (go_at_call 34; ((with_reducible refine (most18_any A6 N c6 R' w21 _ (HPW.out _ K21.out.1).1.rs HWR.out.2.2 hN1.2).mono ?_); rw [HWR.out.2.1]; rintro e w22 ⟨v22, rfl, hs22, hk22⟩))
                refine GPost.mk hk22 ?_
                have K22 : Hid (Kept No w15 w22 ∧ Sl (kI .u64) w22 (fun _ => True) v21 (mostM R') ∧ Sl (kI .u64) w22 (fun _ => True) v22 (mostM R')) := ⟨K21.out.1.trans hk22, K21.out.2.new hk22, hs22.mono fun _ _ _ => trivial⟩
                clear hk22 hs22
                refine pl_grow (by simp only [List.getD_cons_succ, List.getD_cons_zero]; rfl) ?_
                go_wp2_with (go_at_call 17; ((with_reducible refine (equal04_any v21 v22 _ _ w22 _ K22.out.2.1 K22.out.2.2).mono ?_); rw [equal04_refl]; rintro e w23 ⟨rfl, hk23⟩))
                refine GPost.mk hk23 ?_
                have K23 : Hid (Kept No w15 w23) := K22.out.1.trans hk23
                have q23 := (HPW.out w23 K23.out).2.1
                clear hk23
                repeat ((first | refine pl_pur (by simp only [List.getD_cons_succ, List.getD_cons_zero]; rfl) _ (by rfl) (fun W => by go_simp; with_reducible rfl) ?_ | refine pl_rd (by simp only [List.getD_cons_succ, List.getD_cons_zero]; rfl) _ (by rfl) (fun W hW => by have hc := hW.cell (q23) id; clear hW; go_simp; with_reducible rfl) ?_); simp only [Act.put, List.setIfInBounds_toArray, List.set_cons_zero, List.set_cons_succ])
                refine pl_load_whole (by simp only [List.getD_cons_succ, List.getD_cons_zero]; rfl) (by rfl) (.tmp 5) 40 (by rfl) ib 0 (by rfl) _ agg40 (HPW.out w23 K23.out).2.2 (fun h => h) ?_
                simp only [Act.put, List.setIfInBounds_toArray, List.set_cons_zero, List.set_cons_succ]
                repeat ((first | refine pl_pur (by simp only [List.getD_cons_succ, List.getD_cons_zero]; rfl) _ (by rfl) (fun W => by go_simp; with_reducible rfl) ?_ | refine pl_rd (by simp only [List.getD_cons_succ, List.getD_cons_zero]; rfl) _ (by rfl) (fun W hW => by have hc := hW.cell (q23) id; clear hW; go_simp; with_reducible rfl) ?_); simp only [Act.put, List.setIfInBounds_toArray, List.set_cons_zero, List.set_cons_succ])
                refine pl_load_whole (by simp only [List.getD_cons_succ, List.getD_cons_zero]; rfl) (by rfl) (.tmp 5) 40 (by rfl) ib 0 (by rfl) _ agg40 (HPW.out w23 K23.out).2.2 (fun h => h) ?_
                simp only [Act.put, List.setIfInBounds_toArray, List.set_cons_zero, List.set_cons_succ]
                refine pl_grow (by simp only [List.getD_cons_succ, List.getD_cons_zero]; rfl) ?_
                go_wp2_with (go_at_call 26; ((with_reducible refine (holders_any w23 (HPW.out _ K23.out).1.o.m f s hf).mono ?_); rintro e w24 ⟨v24, rfl, hs24, hk24⟩))
                refine GPost.mk hk24 ?_
                have K24 : Hid (Kept No w15 w24 ∧ Sl (kI .i64) w24 (fun _ => True) v24 (holdersM N R' f s)) := ⟨K23.out.trans hk24, hs24.mono fun _ _ _ => trivial⟩
                clear hk24 hs24 q23
                refine pl_grow (by simp only [List.getD_cons_succ, List.getD_cons_zero]; rfl) ?_
                go_wp2_with (go_at_call 36; ((with_reducible refine (holders18_any A6 N c6 R' w24 _ (HPW.out _ K24.out.1).1.rs HWR.out.2.2 hN1.1 hN1.2 HWR.out.1 f s hf).mono ?_); rintro e w25 ⟨v25, rfl, hs25, hk25⟩))
                refine GPost.mk hk25 ?_
                have K25 : Hid (Kept No w15 w25 ∧ Sl (kI .i64) w25 (fun _ => True) v24 (holdersM N R' f s) ∧ Sl (kI .i64) w25 (fun _ => True) v25 (holdersM N R' f s)) := ⟨K24.out.1.trans hk25, K24.out.2.new hk25, hs25.mono fun _ _ _ => trivial⟩
                clear hk25 hs25
                refine pl_grow (by simp only [List.getD_cons_succ, List.getD_cons_zero]; rfl) ?_
                go_wp2_with (go_at_call 35; ((with_reducible refine (same15_true v24 v25 _ w25 _ K25.out.2.1 K25.out.2.2).mono ?_); rintro e w26 ⟨rfl, hk26⟩))
                refine GPost.mk hk26 ?_
                have K26 : Hid (Kept No w15 w26) := K25.out.1.trans hk26
                clear hk26
                repeat ((first | refine pl_pur (by simp only [List.getD_cons_succ, List.getD_cons_zero]; rfl) _ (by rfl) (fun W => by go_simp; with_reducible rfl) ?_ | refine pl_rd (by simp only [List.getD_cons_succ, List.getD_cons_zero]; rfl) _ (by rfl) (fun W hW => by have hc := kcell hW; clear hW; go_simp; with_reducible rfl) ?_); simp only [Act.put, List.setIfInBounds_toArray, List.set_cons_zero, List.set_cons_succ])
                refine pl_fin ?_
                go_wp2
                go_roundw
                case rel => exact ⟨k + 1, by omega, by go_num, R', G8, A6, c6, HT.out.2.1.symm, (HPW.out _ K26.out).1⟩
                case measure => simp [intOf]; omega
              | some r =>
                have hof := of_dec_some H5len hrow
                obtain ⟨q, rfl, hrr, hqN⟩ := row_nat H5len hrow
                have hrow0 : instOf R' q = r.inst ∧ doneOf R' q = r.done ∧ heldOf R' q = r.held := by unfold instOf doneOf heldOf; rw [hrow]; exact ⟨rfl, rfl, rfl⟩
                have HROW : Hid (instOf R' q = r.inst ∧ doneOf R' q = r.done ∧ heldOf R' q = r.held) := hrow0
                have HRR : Hid (R'[q]? = some r) := hrr
                clear hrow hrow0
                go_wp2_with (first
                  | (go_at_call 14; ((with_reducible refine (great_no _ hgx).mono ?_); rintro e w5 ⟨rfl, hk5⟩; have H5 : Hid (Kept (fun k => k = rb ∨ k = mb) (wr.alloc (.cells #[.bool _, .int .i64 _, .int .u64 xi, .slice A0 xd.length c0, .slice A1 xh.length c1] 29)) w5 ∧ Pl w w5 b rb mb ib N f s R R G AM cM) := ⟨hk5.no, HT.out.1.new (((Kept.refl _ wr).alloc _).trans hk5)⟩; clear d0 d1 d2 d3 d4; obtain ⟨f0, f1, f2, f3, f4⟩ := HF.out _ H5.out.1; obtain ⟨m0, _⟩ := heap_one H5.out.2.m; obtain ⟨lm5, lr5, li5⟩ := H5.out.2.lt; have lf5 := World.block_lt_of_cell? w5 _ f1; clear hk5))
                  | (go_at_call 30; go_loud (have hT30 := tell18_any _ N cM (q : Int) xi _ _ xd xh R w5 _ (Old w) H5.out.2.rs H5.out.2.flt H5.out.2.o.m.len hN1.2 H5.out.2.o.m.wide HS.out.2.1 (HS.out.2.2.1.new H5.out.2.o.k) (HS.out.2.2.2.new H5.out.2.o.k); (with_reducible refine hT30.mono ?_); rintro e w6 ⟨A6, c6, rfl, hs6, hk6⟩; clear hT30; have H6 : Hid (Sl kRow w6 (fun k => (k ≠ rb ∧ k ≠ mb ∧ k < w5.heap.size) ∨ New w5 w6 k) (.slice A6 N c6) (tell R (q : Int) xi xd xh) ∧ Kept No w5 w6 ∧ Pl w w6 b rb mb ib N f s R R G AM cM) := ⟨hs6, hk6, H5.out.2.new hk6⟩; obtain ⟨m0, m1⟩ := heap_one H6.out.2.2.m; obtain ⟨lm6, lr6, li6⟩ := H6.out.2.2.lt; obtain ⟨f0, f1, f2, f3, f4⟩ := HF.out _ (H5.out.1.trans hk6.no); have lf6 := World.block_lt_of_cell? w6 _ f1; clear hs6 hk6))
                  | (go_at_call 16; go_loud (have hT16 := act_tell H5.out.2 w6 A6 c6 (q : Int) xi _ _ xd xh HS.out.2.1 HS.out.2.2.1 HS.out.2.2.2 hxl.1 hxl.2 H6.out.1 H6.out.2.1; (with_reducible refine hT16.mono ?_); rintro e w8 ⟨rfl, ⟨G8, h8⟩, hk68⟩; clear hT16; have h8 : Pl w w8 b rb mb ib N f s R' R' G8 A6 c6 := HT.out.2.2 ▸ h8; have H8 : Hid (Pl w w8 b rb mb ib N f s R' R' G8 A6 c6 ∧ ∀ W, Kept No w8 W → W.cell? ⟨wr.heap.size, 1, none⟩ = some (.int .i64 (q : Int))) := ⟨h8, fun W hW => hW.cell (HF.out _ ((H5.out.1.trans H6.out.2.1.no).trans hk68)).2.1 id⟩; clear f0 f2 f3 f4 m0 m1; have f1 := H8.out.2 w8 (Kept.refl _ _); obtain ⟨m0, _⟩ := heap_one H8.out.1.m; obtain ⟨lm8, lr8, li8⟩ := H8.out.1.lt; have lf8 := World.block_lt_of_cell? w8 _ f1; clear h8 hk68))
                  | (go_at_call 31; go_loud ((with_reducible refine (r18of_any _ N _ (q : Int) _).mono ?_); rw [hof]; rintro e w10 ⟨rfl, hk10⟩; have H10 : Hid (Kept No (w8.alloc (.cells #[.int .u64 0, .slice none 0 0, .slice none 0 0, .bool false] 54)) w10) := hk10; clear f1 m0; have f1 := H8.out.2 w10 (((Kept.refl _ w8).alloc _).trans hk10); have H10P : Hid (Pl w w10 b rb mb ib N f s R' R' G8 A6 c6) := H8.out.1.new (((Kept.refl _ w8).alloc _).trans hk10); obtain ⟨m0, _⟩ := heap_one H10P.out.m; obtain ⟨⟨y0, y1, y2, y3⟩, _⟩ := box4 (w := w) hk10 (fun h => h); obtain ⟨eb, eo, Ad, cd, Ah, ch, rfl, ebl, e0, e1, e2, e3, hK⟩ := row_at H8.out.1.rs HRR.out; have k810 : Kept No w8 w10 := ((Kept.refl No w8).alloc _).trans hk10; have e0 := k810.cell e0 id; have e1 := k810.cell e1 id; have e2 := k810.cell e2 id; have e3 := k810.cell e3 id; have ebl2 := Nat.lt_of_lt_of_le ebl k810.size; clear k810; have HKr : Hid (kRow.K w8 (fun j => j ≠ rb ∧ j ≠ mb ∧ j < w8.heap.size) r [.int .u64 r.inst, .slice Ad r.done.length cd, .slice Ah r.held.length ch, .bool r.gone]) := hK; clear hK; clear hk10))
                  | ((refine wpList_store_whole (by rfl) (.tmp 13) (.tmp 86) 54 (by rfl) w8.heap.size 0 54 (by rfl) [.int .u64 r.inst, .slice Ad r.done.length cd, .slice Ah r.held.length ch, .bool r.gone] (by rfl) agg54 #[.int .u64 0, .slice none 0 0, .slice none 0 0, .bool false] (H10.out.block _ (by simp) id |>.trans (heap_alloc_new w8 _)) (by simp) (by simp [Value.oneCell']) ?_; intro w11 HW11)))
                have n1 := new_row (z := #[.int .u64 0, .slice none 0 0, .slice none 0 0, .bool false]) (H10.out.block _ (by simp) id |>.trans (heap_alloc_new w8 _)) (by rfl) HW11.out
                have hk811 : Kept No w8 w11 := (((Kept.refl No w8).alloc _).trans H10.out).trans2 (n1.2.2 (fun k => k = w8.heap.size) rfl) (fun i hi e => absurd hi (by have e : i = w8.heap.size := e; omega))
                obtain ⟨Ax, nx, cx, Ay, ny, cy, HX⟩ : ∃ Ax nx cx Ay ny cy, Hid (Pl w w11 b rb mb ib N f s R' R' G8 (some ⟨eb, eo, none⟩) c6 ∧ w11.cell? ⟨w8.heap.size, 0, none⟩ = some (.int .u64 (instOf R' (q : Int))) ∧ w11.cell? ⟨w8.heap.size, 1, none⟩ = some (.slice Ax nx cx) ∧ w11.cell? ⟨w8.heap.size, 2, none⟩ = some (.slice Ay ny cy) ∧ Sl (kI .u64) w11 (fun _ => True) (.slice Ax nx cx) (doneOf R' (q : Int)) ∧ Sl (kI .u64) w11 (fun _ => True) (.slice Ay ny cy) (heldOf R' (q : Int))) := by
                  rw [HROW.out.1, HROW.out.2.1, HROW.out.2.2]
                  refine ⟨Ad, _, cd, Ah, _, ch, H8.out.1.new hk811, ?_, ?_, ?_, ((kRow_sl HKr.out).1.new hk811).mono fun _ _ _ => trivial, ((kRow_sl HKr.out).2.1.new hk811).mono fun _ _ _ => trivial⟩ <;> rw [cell_of_row _ _ _ _ _ _ n1.1] <;> rfl
                clear f1
                have f1 := H8.out.2 w11 hk811
                obtain ⟨ww, hww⟩ : ∃ ww, ww = w11 := ⟨_, rfl⟩
                rw [← hww] at HX f1 ⊢
                clear hww n1 hk811 HW11 e0 e1 e2 e3 y0 y1 y2 y3 m0 HKr H10 H10P
                have hcell1 : ww.drew.cell? ⟨wr.heap.size, 1, none⟩ = some (.int .i64 (q : Int)) := f1
                have hy0 : ww.drew.cell? ⟨w8.heap.size, 0, none⟩ = some (.int .u64 (instOf R' (q : Int))) := HX.out.2.1
                have hy1 : ww.drew.cell? ⟨w8.heap.size, 1, none⟩ = some (.slice Ax nx cx) := HX.out.2.2.1
                have hy2 : ww.drew.cell? ⟨w8.heap.size, 2, none⟩ = some (.slice Ay ny cy) := HX.out.2.2.2.1
                obtain ⟨I0, hI0⟩ : ∃ I, I = instOf R' (q : Int) := ⟨_, rfl⟩
                rw [← hI0] at hy0
                have HI : Hid (I0 = instOf R' (q : Int)) := hI0
                clear hI0
                have HXd : Hid (Pl w ww.drew b rb mb ib N f s R' R' G8 (some ⟨eb, eo, none⟩) c6) := HX.out.1.new (Kept.refl _ _).drew
                refine wp_region_plan No (.pur 0 (.pur 1 (.pur 4 (.rd 2 (.rd 5 (.grow 3 (.pur 6 (.pur 7 (.pur 8 (.pur 9 (.pur 12 (.rd 10 (.rd 13 (.grow 11 (.grow 14 (.pur 15 (.pur 16 (.pur 17 (.pur 18 (.pur 19 (.pur 22 (.rd 20 (.rd 23 (.grow 21 (.grow 24 (.pur 25 (.pur 26 .fin))))))))))))))))))))))))))) [] mixed (by kernel_rfl) ?_
                repeat ((first | refine pl_pur (by simp only [List.getD_cons_succ, List.getD_cons_zero]; rfl) _ (by rfl) (fun W => by go_simp; with_reducible rfl) ?_ | refine pl_rd (by simp only [List.getD_cons_succ, List.getD_cons_zero]; rfl) _ (by rfl) (fun W hW => by have hc := hW.cell (hcell1) id; clear hW; go_simp; with_reducible rfl) ?_ | refine pl_rd (by simp only [List.getD_cons_succ, List.getD_cons_zero]; rfl) _ (by rfl) (fun W hW => by have hc := hW.cell (hy0) id; clear hW; go_simp; with_reducible rfl) ?_); simp only [Act.put, List.setIfInBounds_toArray, List.set_cons_zero, List.set_cons_succ])
                refine pl_grow (by simp only [List.getD_cons_succ, List.getD_cons_zero]; rfl) ?_
                go_wp2_with (go_at_call 21; ((with_reducible refine (inst_any ww.drew HXd.out.o.m (q : Int)).mono ?_); rintro e w12 ⟨rfl, rfl⟩))
                rw [← HI.out]
                refine GPost.mk (Kept.refl _ _) ?_
                repeat ((first | refine pl_pur (by simp only [List.getD_cons_succ, List.getD_cons_zero]; rfl) _ (by rfl) (fun W => by go_simp; with_reducible rfl) ?_ | refine pl_rd (by simp only [List.getD_cons_succ, List.getD_cons_zero]; rfl) _ (by rfl) (fun W hW => by have hc := hW.cell (hcell1) id; clear hW; go_simp; with_reducible rfl) ?_ | refine pl_rd (by simp only [List.getD_cons_succ, List.getD_cons_zero]; rfl) _ (by rfl) (fun W hW => by have hc := hW.cell (hy1) id; clear hW; go_simp; with_reducible rfl) ?_); simp only [Act.put, List.setIfInBounds_toArray, List.set_cons_zero, List.set_cons_succ])
                refine pl_grow (by simp only [List.getD_cons_succ, List.getD_cons_zero]; rfl) ?_
                go_wp2_with (go_at_call 22; ((with_reducible refine (done_any ww.drew HXd.out.o.m (q : Int)).mono ?_); rintro e w12 ⟨v12, rfl, hs12, hk12⟩))
                refine GPost.mk hk12 ?_
                have H12 : Hid (Kept No ww.drew w12 ∧ Sl (kI .u64) w12 (fun _ => True) v12 (doneOf R' (q : Int))) := ⟨hk12, hs12.mono fun _ _ _ => trivial⟩
                clear hk12 hs12
                repeat ((first | refine pl_pur (by simp only [List.getD_cons_succ, List.getD_cons_zero]; rfl) _ (by rfl) (fun W => by go_simp; with_reducible rfl) ?_ | refine pl_rd (by simp only [List.getD_cons_succ, List.getD_cons_zero]; rfl) _ (by rfl) (fun W hW => by have hc := kcell hW; clear hW; go_simp; with_reducible rfl) ?_); simp only [Act.put, List.setIfInBounds_toArray, List.set_cons_zero, List.set_cons_succ])
                refine pl_grow (by simp only [List.getD_cons_succ, List.getD_cons_zero]; rfl) ?_
                go_wp2_with (go_at_call 17; ((with_reducible refine (equal04_any v12 _ _ _ w12 (fun _ => True) H12.out.2 (HX.out.2.2.2.2.1.new ((Kept.refl No ww).drew.trans H12.out.1))).mono ?_); rw [equal04_refl]; rintro e w13 ⟨rfl, hk13⟩))
                refine GPost.mk hk13 ?_
                have H13 : Hid (Kept No ww.drew w13) := H12.out.1.trans hk13
                have hc13 := H13.out.cell hcell1 id
                have hy13 := H13.out.cell hy2 id
                clear hk13
                repeat ((first | refine pl_pur (by simp only [List.getD_cons_succ, List.getD_cons_zero]; rfl) _ (by rfl) (fun W => by go_simp; with_reducible rfl) ?_ | refine pl_rd (by simp only [List.getD_cons_succ, List.getD_cons_zero]; rfl) _ (by rfl) (fun W hW => by have hc := hW.cell (hc13) id; clear hW; go_simp; with_reducible rfl) ?_ | refine pl_rd (by simp only [List.getD_cons_succ, List.getD_cons_zero]; rfl) _ (by rfl) (fun W hW => by have hc := hW.cell (hy13) id; clear hW; go_simp; with_reducible rfl) ?_); simp only [Act.put, List.setIfInBounds_toArray, List.set_cons_zero, List.set_cons_succ])
                refine pl_grow (by simp only [List.getD_cons_succ, List.getD_cons_zero]; rfl) ?_
                go_wp2_with (go_at_call 23; ((with_reducible refine (held_any w13 (HXd.out.o.m.new H13.out) (q : Int)).mono ?_); rintro e w14 ⟨v14, rfl, hs14, hk14⟩))
                refine GPost.mk hk14 ?_
                have H14 : Hid (Kept No ww.drew w14 ∧ Sl (kI .u64) w14 (fun _ => True) v14 (heldOf R' (q : Int))) := ⟨H13.out.trans hk14, hs14.mono fun _ _ _ => trivial⟩
                clear hk14 hs14
                repeat ((first | refine pl_pur (by simp only [List.getD_cons_succ, List.getD_cons_zero]; rfl) _ (by rfl) (fun W => by go_simp; with_reducible rfl) ?_ | refine pl_rd (by simp only [List.getD_cons_succ, List.getD_cons_zero]; rfl) _ (by rfl) (fun W hW => by have hc := kcell hW; clear hW; go_simp; with_reducible rfl) ?_); simp only [Act.put, List.setIfInBounds_toArray, List.set_cons_zero, List.set_cons_succ])
                refine pl_grow (by simp only [List.getD_cons_succ, List.getD_cons_zero]; rfl) ?_
                go_wp2_with (go_at_call 17; ((with_reducible refine (equal04_any v14 _ _ _ w14 (fun _ => True) H14.out.2 (HX.out.2.2.2.2.2.new ((Kept.refl No ww).drew.trans H14.out.1))).mono ?_); rw [equal04_refl]; rintro e w15 ⟨rfl, hk15⟩))
                refine GPost.mk hk15 ?_
                have H15 : Hid (Pl w w15 b rb mb ib N f s R' R' G8 (some ⟨eb, eo, none⟩) c6) := HXd.out.new (H14.out.1.trans hk15)
                clear hk15
                repeat ((first | refine pl_pur (by simp only [List.getD_cons_succ, List.getD_cons_zero]; rfl) _ (by rfl) (fun W => by go_simp; with_reducible rfl) ?_ | refine pl_rd (by simp only [List.getD_cons_succ, List.getD_cons_zero]; rfl) _ (by rfl) (fun W hW => by have hc := kcell hW; clear hW; go_simp; with_reducible rfl) ?_); simp only [Act.put, List.setIfInBounds_toArray, List.set_cons_zero, List.set_cons_succ])
                refine pl_fin ?_
                go_wp2
                have HPW : Hid (∀ W, Kept No w15 W → Pl w W b rb mb ib N f s R' R' G8 (some ⟨eb, eo, none⟩) c6 ∧ W.cell? ⟨mb, 0, none⟩ = some (.slice (some ⟨eb, eo, none⟩) N c6) ∧ (∀ i u, [Value.int .u8 f, .int .u64 s][i]? = some u → W.cell? ⟨ib, 0 + i, none⟩ = some u)) := fun W hW => by
                  have hP := H15.out.new hW
                  refine ⟨hP, (heap_one hP.m).1, fun i u hu => ?_⟩
                  match i with
                  | 0 => have e : Value.int .u8 f = u := by simpa using hu
                         subst e; exact hP.c0
                  | 1 => have e : Value.int .u64 s = u := by simpa using hu
                         subst e; exact hP.c1
                  | i + 2 => simp at hu
                have HWR : Hid (Wide N R' ∧ riseAll N R' = mostM R' ∧ R'.length = N) := by
                  have hl := H15.out.o.m.len
                  refine ⟨H15.out.o.m.wide, riseAll_most H15.out.o.m.wide (fun e => by rw [e] at hl; simp at hl; omega) (fun r hr x hx => ?_), hl⟩
                  obtain ⟨i, hi⟩ := List.mem_iff_getElem?.1 hr
                  obtain ⟨_, _, _, _, _, _, _, _, _, _, _, _, hK⟩ := row_at H15.out.rs hi
                  exact (inr_u64.1 ((kRow_sl hK).2.1.inr x hx)).1
                have K15 : Hid (Kept No w15 w15.drew) := (Kept.refl _ _).drew
                have q15 := (HPW.out w15.drew K15.out).2.1
                clear f1 hcell1 hy0 hy1 hy2 hc13 hy13
                refine wp_region_plan No (.pur 0 (.rd 2 (.grow 1 (.grow 3 (.grow 4 (.pur 5 (.pur 6 (.pur 7 (.rd 9 (.grow 8 (.grow 10 (.pur 11 (.pur 12 (.pur 13 (.pur 14 (.rd 16 (.grow 15 (.grow 17 (.grow 18 (.pur 19 (.pur 20 (.pur 21 (.pur 22 (.rd 23 (.rd 25 (.rd 26 (.grow 24 (.grow 27 (.grow 28 (.pur 29 (.pur 30 .fin))))))))))))))))))))))))))))))) [] mixed (by kernel_rfl) ?_
                repeat ((first | refine pl_pur (by simp only [List.getD_cons_succ, List.getD_cons_zero]; rfl) _ (by rfl) (fun W => by go_simp; with_reducible rfl) ?_ | refine pl_rd (by simp only [List.getD_cons_succ, List.getD_cons_zero]; rfl) _ (by rfl) (fun W hW => by have hc := hW.cell (q15) id; clear hW; go_simp; with_reducible rfl) ?_); simp only [Act.put, List.setIfInBounds_toArray, List.set_cons_zero, List.set_cons_succ])
                refine pl_grow (by simp only [List.getD_cons_succ, List.getD_cons_zero]; rfl) ?_
                go_wp2_with (go_at_call 18; ((with_reducible refine (stable_any w15.drew (HPW.out _ K15.out).1.o.m).mono ?_); rintro e w16 ⟨v16, rfl, hs16, hk16⟩))
                refine GPost.mk hk16 ?_
                have K16 : Hid (Kept No w15 w16 ∧ Sl (kI .u64) w16 (fun _ => True) v16 (stableM N R')) := ⟨K15.out.trans hk16, hs16.mono fun _ _ _ => trivial⟩
                clear hk16 hs16 q15
                refine pl_grow (by simp only [List.getD_cons_succ, List.getD_cons_zero]; rfl) ?_
                go_wp2_with (go_at_call 32; ((with_reducible refine (stable18_any (some ⟨eb, eo, none⟩) N c6 R' w16 _ (HPW.out _ K16.out.1).1.rs HWR.out.2.2 hN1.1 hN1.2 HWR.out.1).mono ?_); rintro e w17 ⟨v17, rfl, hs17, hk17⟩))
                refine GPost.mk hk17 ?_
                have K17 : Hid (Kept No w15 w17 ∧ Sl (kI .u64) w17 (fun _ => True) v16 (stableM N R') ∧ Sl (kI .u64) w17 (fun _ => True) v17 (stableM N R')) := ⟨K16.out.1.trans hk17, K16.out.2.new hk17, hs17.mono fun _ _ _ => trivial⟩
                clear hk17 hs17
                refine pl_grow (by simp only [List.getD_cons_succ, List.getD_cons_zero]; rfl) ?_
                go_wp2_with (go_at_call 17; ((with_reducible refine (equal04_any v16 v17 _ _ w17 _ K17.out.2.1 K17.out.2.2).mono ?_); rw [equal04_refl]; rintro e w18 ⟨rfl, hk18⟩))
                refine GPost.mk hk18 ?_
                have K18 : Hid (Kept No w15 w18) := K17.out.1.trans hk18
                have q18 := (HPW.out w18 K18.out).2.1
                clear hk18
                repeat ((first | refine pl_pur (by simp only [List.getD_cons_succ, List.getD_cons_zero]; rfl) _ (by rfl) (fun W => by go_simp; with_reducible rfl) ?_ | refine pl_rd (by simp only [List.getD_cons_succ, List.getD_cons_zero]; rfl) _ (by rfl) (fun W hW => by have hc := hW.cell (q18) id; clear hW; go_simp; with_reducible rfl) ?_); simp only [Act.put, List.setIfInBounds_toArray, List.set_cons_zero, List.set_cons_succ])
                refine pl_grow (by simp only [List.getD_cons_succ, List.getD_cons_zero]; rfl) ?_
                go_wp2_with (go_at_call 19; ((with_reducible refine (least_any w18 (HPW.out _ K18.out).1.o.m).mono ?_); rintro e w19 ⟨rfl, hk19⟩))
                obtain ⟨M0, hM0⟩ : ∃ M, M = leastM R' := ⟨_, rfl⟩
                rw [← hM0]
                have HM0 : Hid (M0 = leastM R') := hM0
                refine GPost.mk hk19 ?_
                have K19 : Hid (Kept No w15 w19) := K18.out.trans hk19
                clear hk19 q18 hM0
                refine pl_grow (by simp only [List.getD_cons_succ, List.getD_cons_zero]; rfl) ?_
                go_wp2_with (go_at_call 33; ((with_reducible refine (least18_any (some ⟨eb, eo, none⟩) N c6 R' w19 _ (HPW.out _ K19.out).1.rs HWR.out.2.2 hN1.2).mono ?_); rw [← HM0.out]; rintro e w20 ⟨rfl, hk20⟩))
                refine GPost.mk hk20 ?_
                have K20 : Hid (Kept No w15 w20) := K19.out.trans hk20
                have q20 := (HPW.out w20 K20.out).2.1
                clear hk20
                repeat ((first | refine pl_pur (by simp only [List.getD_cons_succ, List.getD_cons_zero]; rfl) _ (by rfl) (fun W => by go_simp; with_reducible rfl) ?_ | refine pl_rd (by simp only [List.getD_cons_succ, List.getD_cons_zero]; rfl) _ (by rfl) (fun W hW => by have hc := hW.cell (q20) id; clear hW; go_simp; with_reducible rfl) ?_); simp only [Act.put, List.setIfInBounds_toArray, List.set_cons_zero, List.set_cons_succ])
                refine pl_grow (by simp only [List.getD_cons_succ, List.getD_cons_zero]; rfl) ?_
                go_wp2_with (go_at_call 20; ((with_reducible refine (most_any w20 (HPW.out _ K20.out).1.o.m).mono ?_); rintro e w21 ⟨v21, rfl, hs21, hk21⟩))
                refine GPost.mk hk21 ?_
                have K21 : Hid (Kept No w15 w21 ∧ Sl (kI .u64) w21 (fun _ => True) v21 (mostM R')) := ⟨K20.out.trans hk21, hs21.mono fun _ _ _ => trivial⟩
                clear hk21 hs21 q20
                refine pl_grow (by simp only [List.getD_cons_succ, List.getD_cons_zero]; rfl) ?_
                go_wp2_with (go_at_call 34; ((with_reducible refine (most18_any (some ⟨eb, eo, none⟩) N c6 R' w21 _ (HPW.out _ K21.out.1).1.rs HWR.out.2.2 hN1.2).mono ?_); rw [HWR.out.2.1]; rintro e w22 ⟨v22, rfl, hs22, hk22⟩))
                refine GPost.mk hk22 ?_
                have K22 : Hid (Kept No w15 w22 ∧ Sl (kI .u64) w22 (fun _ => True) v21 (mostM R') ∧ Sl (kI .u64) w22 (fun _ => True) v22 (mostM R')) := ⟨K21.out.1.trans hk22, K21.out.2.new hk22, hs22.mono fun _ _ _ => trivial⟩
                clear hk22 hs22
                refine pl_grow (by simp only [List.getD_cons_succ, List.getD_cons_zero]; rfl) ?_
                go_wp2_with (go_at_call 17; ((with_reducible refine (equal04_any v21 v22 _ _ w22 _ K22.out.2.1 K22.out.2.2).mono ?_); rw [equal04_refl]; rintro e w23 ⟨rfl, hk23⟩))
                refine GPost.mk hk23 ?_
                have K23 : Hid (Kept No w15 w23) := K22.out.1.trans hk23
                have q23 := (HPW.out w23 K23.out).2.1
                clear hk23
                repeat ((first | refine pl_pur (by simp only [List.getD_cons_succ, List.getD_cons_zero]; rfl) _ (by rfl) (fun W => by go_simp; with_reducible rfl) ?_ | refine pl_rd (by simp only [List.getD_cons_succ, List.getD_cons_zero]; rfl) _ (by rfl) (fun W hW => by have hc := hW.cell (q23) id; clear hW; go_simp; with_reducible rfl) ?_); simp only [Act.put, List.setIfInBounds_toArray, List.set_cons_zero, List.set_cons_succ])
                refine pl_load_whole (by simp only [List.getD_cons_succ, List.getD_cons_zero]; rfl) (by rfl) (.tmp 5) 40 (by rfl) ib 0 (by rfl) _ agg40 (HPW.out w23 K23.out).2.2 (fun h => h) ?_
                simp only [Act.put, List.setIfInBounds_toArray, List.set_cons_zero, List.set_cons_succ]
                repeat ((first | refine pl_pur (by simp only [List.getD_cons_succ, List.getD_cons_zero]; rfl) _ (by rfl) (fun W => by go_simp; with_reducible rfl) ?_ | refine pl_rd (by simp only [List.getD_cons_succ, List.getD_cons_zero]; rfl) _ (by rfl) (fun W hW => by have hc := hW.cell (q23) id; clear hW; go_simp; with_reducible rfl) ?_); simp only [Act.put, List.setIfInBounds_toArray, List.set_cons_zero, List.set_cons_succ])
                refine pl_load_whole (by simp only [List.getD_cons_succ, List.getD_cons_zero]; rfl) (by rfl) (.tmp 5) 40 (by rfl) ib 0 (by rfl) _ agg40 (HPW.out w23 K23.out).2.2 (fun h => h) ?_
                simp only [Act.put, List.setIfInBounds_toArray, List.set_cons_zero, List.set_cons_succ]
                refine pl_grow (by simp only [List.getD_cons_succ, List.getD_cons_zero]; rfl) ?_
                go_wp2_with (go_at_call 26; ((with_reducible refine (holders_any w23 (HPW.out _ K23.out).1.o.m f s hf).mono ?_); rintro e w24 ⟨v24, rfl, hs24, hk24⟩))
                refine GPost.mk hk24 ?_
                have K24 : Hid (Kept No w15 w24 ∧ Sl (kI .i64) w24 (fun _ => True) v24 (holdersM N R' f s)) := ⟨K23.out.trans hk24, hs24.mono fun _ _ _ => trivial⟩
                clear hk24 hs24 q23
                refine pl_grow (by simp only [List.getD_cons_succ, List.getD_cons_zero]; rfl) ?_
                go_wp2_with (go_at_call 36; ((with_reducible refine (holders18_any (some ⟨eb, eo, none⟩) N c6 R' w24 _ (HPW.out _ K24.out.1).1.rs HWR.out.2.2 hN1.1 hN1.2 HWR.out.1 f s hf).mono ?_); rintro e w25 ⟨v25, rfl, hs25, hk25⟩))
                refine GPost.mk hk25 ?_
                have K25 : Hid (Kept No w15 w25 ∧ Sl (kI .i64) w25 (fun _ => True) v24 (holdersM N R' f s) ∧ Sl (kI .i64) w25 (fun _ => True) v25 (holdersM N R' f s)) := ⟨K24.out.1.trans hk25, K24.out.2.new hk25, hs25.mono fun _ _ _ => trivial⟩
                clear hk25 hs25
                refine pl_grow (by simp only [List.getD_cons_succ, List.getD_cons_zero]; rfl) ?_
                go_wp2_with (go_at_call 35; ((with_reducible refine (same15_true v24 v25 _ w25 _ K25.out.2.1 K25.out.2.2).mono ?_); rintro e w26 ⟨rfl, hk26⟩))
                refine GPost.mk hk26 ?_
                have K26 : Hid (Kept No w15 w26) := K25.out.1.trans hk26
                clear hk26
                repeat ((first | refine pl_pur (by simp only [List.getD_cons_succ, List.getD_cons_zero]; rfl) _ (by rfl) (fun W => by go_simp; with_reducible rfl) ?_ | refine pl_rd (by simp only [List.getD_cons_succ, List.getD_cons_zero]; rfl) _ (by rfl) (fun W hW => by have hc := kcell hW; clear hW; go_simp; with_reducible rfl) ?_); simp only [Act.put, List.setIfInBounds_toArray, List.set_cons_zero, List.set_cons_succ])
                refine pl_fin ?_
                go_wp2
                go_roundw
                case rel => exact ⟨k + 1, by omega, by go_num, R', G8, (some ⟨eb, eo, none⟩), c6, HT.out.2.1.symm, (HPW.out _ K26.out).1⟩
                case measure => simp [intOf]; omega
            
        · go_wp2_with (go_at_call 12; ((with_reducible refine (HA _).mono ?_); rintro e w6 ⟨rfl, hk6⟩))
          go_ret
          exact ⟨rfl, hpl.o.k.trans hk6⟩
end Go.Proofs.Ytfnecdkfhackkaa
