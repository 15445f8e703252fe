/- PullAsks: the walk. -/
import Derived.Test.YtfnecdkfhackkaaPg13
set_option linter.unusedVariables false
set_option linter.unusedSimpArgs false
namespace Go.Proofs.Ytfnecdkfhackkaa
open Go.RowKit
theorem Sl.intAt {k : IntKind} {w : World} {F : Nat → Prop} {v : Value} {xs : List Int} (h : Sl (kI k) w F v xs) {j : Nat} {x : Int} (hx : xs[j]? = some x) :
    ∃ b off c, v = .slice (some ⟨b, off, none⟩) xs.length c ∧ w.cell? ⟨b, off + j, none⟩ = some (.int k x) ∧ xs.length ≤ 9223372036854775807 ∧ j < xs.length := by
  have hj := (List.getElem?_eq_some_iff.1 hx).1
  rcases h.ints with ⟨rfl, _⟩ | ⟨_, h1, b, off, c, h2, _, _, _, _, hc⟩
  · simp at hj
  · exact ⟨b, off, c, h2, (hc j x hx).1, h1, hj⟩
theorem contains_snoc {l : List Int} {j : Nat} {z q : Int} (hz : l[j]? = some z) : (l.take (j + 1)).contains q = ((l.take j).contains q || decide (z = q)) := by
  rw [take_snoc _ _ _ hz]
  simp only [List.contains_eq_mem, List.mem_append, List.mem_singleton, Bool.decide_or, eq_comm]

set_option maxHeartbeats 4000000 in
set_option maxRecDepth 20000 in
theorem asks_any (n me again : Int) (v : Value) (l : List Act) (w : World) (hl : Sl kAct w (Old w) v l) : Calls Try.prog 9 #[.int .i64 n, .int .i64 me, .int .i64 again, v] w fun e w' => e = .returned (.bool true) ∧ Kept No w w' := by
  obtain ⟨A, c, rfl, hlm, hat⟩ := acts_at hl
  have HA := fun W => awake20g W
  by_cases hbig : 100 < l.length
  · have h1 : (100 : Int) < (l.length : Int) := by omega
    clear hl hat
    go_enter Try.func9, Try.ntmps9
    go_wp2_with (go_at_call 37; ((with_reducible refine (HA _).mono ?_); rintro e w' ⟨rfl, hk⟩))
    go_ret
    exact ⟨rfl, hk⟩
  · have h1 : ¬ (100 : Int) < (l.length : Int) := by omega
    by_cases hn : 20 < n
    · clear hl hat
      go_enter Try.func9, Try.ntmps9
      go_wp2_with (go_at_call 37; ((with_reducible refine (HA _).mono ?_); rintro e w' ⟨rfl, hk⟩))
      go_ret
      exact ⟨rfl, hk⟩
    · obtain ⟨L, hL⟩ : ∃ L, L = l.length := ⟨_, rfl⟩
      rw [← hL] at hlm h1 hbig ⊢
      have HL : Hid (L = l.length) := hL
      have HAT : Hid (∀ j x, l[j]? = some x → ∃ bl off vh vs, A = some ⟨bl, off, none⟩ ∧ bl < w.heap.size ∧ (∀ i u, [.int .i64 x.kind, .int .i64 x.p, .int .i64 x.now, vh, vs][i]? = some u → w.cell? ⟨bl, off + j * 5 + i, none⟩ = some u) ∧
        InR .i64 x.p ∧ Sl (kI .u64) w (Old w) vh x.held ∧ Sl (kI .i64) w (Old w) vs x.skip) := hat
      clear hL hat hl
      obtain ⟨N, hN⟩ : ∃ N, N = capN n := ⟨_, rfl⟩
      obtain ⟨M, hM⟩ : ∃ M, M = meN n me := ⟨_, rfl⟩
      obtain ⟨R0, hR0⟩ : ∃ R, R = List.replicate N (zrow N) := ⟨_, rfl⟩
      obtain ⟨X0, hX0⟩ : ∃ X, X = newP n me again := ⟨_, rfl⟩
      have hnew := fun W => new_any n W
      rw [show (max 1 (min n 64)).toNat = N from hN.symm, ← hR0] at hnew
      have hpnew := fun W => pnew_any n me again W
      rw [← hX0] at hpnew
      have hmx : max 1 n = (N : Int) := by rw [hN]; unfold capN; omega
      have hN1 := capN_in n
      rw [← hN] at hN1
      have hmm : max 0 (min me ((N : Int) - 1)) = (M : Int) := by rw [hM]; unfold meN; rw [← hN]; omega
      have hw1 : IntKind.i64.wrap ((N : Int) - 1) = (N : Int) - 1 := by rw [IntKind.wrap_i64]; omega
      have HX0 : Hid (X0.ok ∧ X0.n = N ∧ X0.me = M ∧ X0.want = none) := ⟨hX0 ▸ newP_ok n me again, by rw [hX0, hN]; rfl, by rw [hX0, hM]; rfl, by rw [hX0]; rfl⟩
      clear hN hR0 hM hX0
      go_enter Try.func9, Try.ntmps9
      go_wp2_with (first
        | (go_at_call 13; ((with_reducible refine (hnew w).mono ?_); rintro e w1 ⟨b, rb, G1, rfl, hma, hka, hra, _, _⟩; have H1 : Hid (MatAt w1 b rb N R0 G1 ∧ Kept No w w1 ∧ w.heap.size ≤ rb) := ⟨hma, hka, hra⟩; have hrb1 := hma.lt.2; clear hma hka hra))
        | (go_at_call 38; ((with_reducible refine (hpnew w1).mono ?_); rintro e w2 ⟨rfl, hp, hk2⟩; obtain ⟨px, hpx⟩ : ∃ k, k = w1.heap.size := ⟨_, rfl⟩; rw [← hpx] at hp ⊢; have HD0 := (show Hid _ from duo_start H1.out.1 H1.out.2.1 H1.out.2.2 hp HX0.out.2.2.2 hk2 hpx HX0.out.1); clear hp hk2 hpx)))
      clear hnew hpnew
      go_loopw [12] (fun i wr => ∃ k : Nat, k ≤ L ∧ i = .int .i64 k ∧ ∃ R G O x, Duo w wr b rb px N R G O x ∧ x.n = N ∧ x.me = M) (fun i _ => L - (intOf i).toNat)
      case atStart => exact ⟨0, Nat.zero_le _, rfl, R0, G1, _, X0, HD0.out, HX0.out.2.1, HX0.out.2.2.1⟩
      case round =>
        obtain ⟨k, hk, rfl, R, G, O, x, hduo, hxn, hxm⟩ := hrel
        by_cases hlt : k < L
        · obtain ⟨⟨xk, xp, xt, xh, xs⟩, hx⟩ : ∃ x, l[k]? = some x := ⟨_, List.getElem?_eq_getElem (by rw [← HL.out]; exact hlt)⟩
          obtain ⟨bl, off, vd, vh, rfl, hbl, hcx, pin, hdx, hhx⟩ := HAT.out k _ hx
          simp only at hcx hdx hhx pin
          obtain ⟨A0, c0, rfl, _⟩ := hdx.slice
          obtain ⟨A1, c1, rfl, _⟩ := hhx.slice
          have hkw := hduo.k
          have d0 : wr.cell? ⟨bl, off + k * 5, none⟩ = some (.int .i64 xk) := hkw.cell (hcx 0 _ rfl) id
          have d1 := hkw.cell (hcx 1 _ rfl) id
          have d2 := hkw.cell (hcx 2 _ rfl) id
          have d3 := hkw.cell (hcx 3 _ rfl) id
          have d4 := hkw.cell (hcx 4 _ rfl) id
          have hrlt := hduo.m.lt.2
          have HS : Hid (InR .i64 xp ∧ Sl (kI .u64) w (Old w) (.slice A0 xh.length c0) xh ∧ Sl (kI .i64) w (Old w) (.slice A1 xs.length c1) xs) := ⟨pin, hdx, hhx⟩
          have HT : Hid (Duo w wr b rb px N R G O x ∧ x.n = N ∧ x.me = M) := ⟨hduo, hxn, hxm⟩
          clear hkw hcx pin hdx hhx hduo hxn hxm hx
          have hblr : bl < wr.heap.size := World.block_lt_of_cell? wr _ d0
          by_cases hgx : 100 < xh.length ∨ 100 < xs.length
          · go_wp2_with (first | (go_at_call 41; ((with_reducible refine (great20_yes _ hgx).mono ?_); rintro e w5 ⟨rfl, hk5⟩)) | (go_at_call 37; ((with_reducible refine (HA _).mono ?_); rintro e w6 ⟨rfl, hk6⟩)))
            go_ret
            exact ⟨rfl, HT.out.1.k.trans ((((Kept.refl _ wr).alloc _).trans hk5).trans hk6)⟩
          · have hxl : xh.length ≤ 100 ∧ xs.length ≤ 100 := by omega
            have HO1 : Hid (∀ k, O k → k < wr.heap.size) := fun k ho => (HT.out.1.ol k ho).2
            by_cases hk1 : xk = 1
            · subst hk1
              go_wp2_with (first
                | (go_at_call 41; go_must ((with_reducible refine (great20_no _ hgx).mono ?_); rintro e w5 ⟨rfl, hk5⟩; have f0 := hk5.cell (p := ⟨wr.heap.size, 0, none⟩) (show _ = some (.int .i64 1) by simp) id; have f1 := hk5.cell (p := ⟨wr.heap.size, 1, none⟩) (show _ = some (.int .i64 xp) by simp) id; have f2 := hk5.cell (p := ⟨wr.heap.size, 2, none⟩) (show _ = some (.int .i64 xt) by simp) id; have f3 := hk5.cell (p := ⟨wr.heap.size, 3, none⟩) (show _ = some (.slice A0 xh.length c0) by simp) id; have f4 := hk5.cell (p := ⟨wr.heap.size, 4, none⟩) (show _ = some (.slice A1 xs.length c1) by simp) id; have HD5 : Hid (Duo w w5 b rb px N R G O x) := HT.out.1.new (((Kept.refl _ wr).alloc _).trans hk5); have hb15 := World.block_lt_of_cell? w5 _ f0; clear hk5 d0 d1 d2 d3 d4))
                | (go_at_call 16; go_must ((with_reducible refine (duo_tell w5 HD5.out xp 0 (.slice none 0 0) _ [] xh (by simp [inr_u64]) (Sl.nil _ _ _) HS.out.2.1 (by simp) hxl.1).mono ?_); rintro e w6 ⟨rfl, ⟨G6, h6⟩, _⟩)))
              go_roundw
              case rel => exact ⟨k + 1, by omega, by go_num, _, G6, O, x, h6, HT.out.2.1, HT.out.2.2⟩
              case measure => simp [intOf]; omega
            · by_cases hk0 : xk = 0
              · subst hk0
                obtain ⟨⟨y, ⟨idf, ids⟩, q, ok⟩, hnx⟩ : ∃ z, nextI x ⟨xh, N, R, xs⟩ xt = z := ⟨_, rfl⟩
                have hyn := nextI_eq x ⟨xh, N, R, xs⟩ xt
                rw [hnx] at hyn
                cases ok with
                | false =>
                  have HY : Hid (y.n = N ∧ y.me = M) := ⟨hyn.1.trans HT.out.2.1, hyn.2.1.trans HT.out.2.2⟩
                  have HNX : Hid _ := hnx
                  clear hyn hnx
                  go_wp2_with (first
                | (go_at_call 41; go_must ((with_reducible refine (great20_no _ hgx).mono ?_); rintro e w5 ⟨rfl, hk5⟩; have f0 := hk5.cell (p := ⟨wr.heap.size, 0, none⟩) (show _ = some (.int .i64 0) by simp) id; have f1 := hk5.cell (p := ⟨wr.heap.size, 1, none⟩) (show _ = some (.int .i64 xp) by simp) id; have f2 := hk5.cell (p := ⟨wr.heap.size, 2, none⟩) (show _ = some (.int .i64 xt) by simp) id; have f3 := hk5.cell (p := ⟨wr.heap.size, 3, none⟩) (show _ = some (.slice A0 xh.length c0) by simp) id; have f4 := hk5.cell (p := ⟨wr.heap.size, 4, none⟩) (show _ = some (.slice A1 xs.length c1) by simp) id; have HD5 : Hid (Duo w w5 b rb px N R G O x) := HT.out.1.new (((Kept.refl _ wr).alloc _).trans hk5); have hb15 := World.block_lt_of_cell? w5 _ f0; clear hk5 d0 d1 d2 d3 d4))
                | (go_at_call 39; go_must ((with_reducible refine (duo_next w5 HD5.out xt _ _ xh xs HS.out.2.1 HS.out.2.2 HNX.out).mono ?_); rintro e w6 ⟨rfl, ⟨O6, h6⟩, hk6⟩)))
                  go_roundw
                  case rel => exact ⟨k + 1, by omega, by go_num, R, G, O6, y, h6.new ((Kept.refl _ _).alloc _), HY.out.1, HY.out.2⟩
                  case measure => simp [intOf]; omega
                | true =>
                  obtain ⟨f, hf, hfn, hids0, hmem, hme, hsk, hyl⟩ := nextI_asks HT.out.1.ok _ _ hnx
                  simp only at hf hids0 hmem
                  subst hf
                  have hf255 : (f : Int) ≤ 255 := by have := HT.out.1.ok.n2; omega
                  have HY : Hid (y.n = N ∧ y.me = M ∧ ids = nextS ⟨xh, N, R, xs⟩ f ∧ q ∈ holdersM N R f ids ∧ q ≠ (M : Int) ∧ q ∉ xs) := ⟨hyn.1.trans HT.out.2.1, hyn.2.1.trans HT.out.2.2, hids0, hmem, by rw [← HT.out.2.2]; exact hme, hsk⟩
                  have HNX : Hid _ := hnx
                  obtain ⟨hs, hhs⟩ : ∃ hs, hs = holdersM N R f ids := ⟨_, rfl⟩
                  have hol := fun W hW => holders_any (b := b) (rb := rb) (n := N) (rows := R) (G := G) W hW f ids hf255
                  rw [← hhs] at hol
                  have HQ : Hid (q ∈ hs) := by rw [hhs]; exact hmem
                  have hqM : ¬ q = (M : Int) := HY.out.2.2.2.2.1
                  clear hyn hnx hmem hme hsk hfn hhs hids0 hyl
                  go_wp2_with (first
                    | (go_at_call 41; go_must ((with_reducible refine (great20_no _ hgx).mono ?_); rintro e w5 ⟨rfl, hk5⟩; have f0 := hk5.cell (p := ⟨wr.heap.size, 0, none⟩) (show _ = some (.int .i64 0) by simp) id; have f2 := hk5.cell (p := ⟨wr.heap.size, 2, none⟩) (show _ = some (.int .i64 xt) by simp) id; have f3 := hk5.cell (p := ⟨wr.heap.size, 3, none⟩) (show _ = some (.slice A0 xh.length c0) by simp) id; have f4 := hk5.cell (p := ⟨wr.heap.size, 4, none⟩) (show _ = some (.slice A1 xs.length c1) by simp) id; have HD5 : Hid (Duo w w5 b rb px N R G O x) := HT.out.1.new (((Kept.refl _ wr).alloc _).trans hk5); have hb15 := World.block_lt_of_cell? w5 _ f0; clear hk5 d0 d1 d2 d3 d4))
                    | (go_at_call 39; go_must ((with_reducible refine (duo_next w5 HD5.out xt _ _ xh xs HS.out.2.1 HS.out.2.2 HNX.out).mono ?_); rintro e w6 ⟨rfl, ⟨O6, h6⟩, hk6⟩; have HD6 : Hid (Duo w w6 b rb px N R G O6 y) := h6; have f3 := hk6.cell f3 (fun e => absurd (HO1.out _ e) (Nat.lt_irrefl _)); have f4 := hk6.cell f4 (fun e => absurd (HO1.out _ e) (Nat.lt_irrefl _)); have hb16 := World.block_lt_of_cell? w6 _ f3; clear h6 hk6 f0 f2 hb15))
                    | (go_at_call 26; go_must ((with_reducible refine (hol (w6.alloc (.cells #[.int .u8 f, .int .u64 ids] 40)) (HD6.out.m.new ((Kept.refl _ _).alloc _))).mono ?_); rintro e w7 ⟨v7, rfl, hs7, hk7⟩; have H7 : Hid (Sl (kI .i64) w7 (New (w6.alloc (.cells #[.int .u8 f, .int .u64 ids] 40)) w7) v7 hs ∧ Kept No w6 w7) := ⟨hs7, ((Kept.refl No w6).alloc _).trans hk7⟩; have t0 := hk7.cell (p := ⟨w6.heap.size, 0, none⟩) (show _ = some (.int .u8 f) by simp) id; have t1 := hk7.cell (p := ⟨w6.heap.size, 1, none⟩) (show _ = some (.int .u64 ids) by simp) id; have f3 := H7.out.2.cell f3 id; have f4 := H7.out.2.cell f4 id; obtain ⟨A7, c7, rfl, hc71, hc72⟩ := hs7.slice; clear hs7 hk7 hol)))
                  have hhl : hs.length ≤ 9223372036854775807 := by simp only [maxLen] at hc72; omega
                  clear hc71 hc72
                  go_loopw [17, 19] (fun h i wq => ∃ j : Nat, j ≤ hs.length ∧ i = .int .i64 j ∧ h = .bool ((hs.take j).contains q) ∧ w7 = wq) (fun _ i _ => hs.length - (intOf i).toNat)
                  case atStart => exact ⟨0, Nat.zero_le _, by first | rfl | trivial, by first | rfl | trivial, by first | rfl | trivial⟩
                  case round =>
                    obtain ⟨j, hj, rfl, rfl, rfl⟩ := hrel
                    by_cases hjl : j < hs.length
                    · obtain ⟨z, hz⟩ : ∃ z, hs[j]? = some z := ⟨_, List.getElem?_eq_getElem hjl⟩
                      obtain ⟨b7, o7, c7', e7, z0, _, _⟩ := H7.out.1.intAt hz
                      simp only [Value.slice.injEq] at e7
                      obtain ⟨rfl, _, rfl⟩ := e7
                      have HC : Hid ((hs.take (j + 1)).contains q = ((hs.take j).contains q || decide (z = q))) := contains_snoc hz
                      obtain ⟨cc, hcc⟩ : ∃ cc, cc = (hs.take j).contains q := ⟨_, rfl⟩
                      rw [← hcc] at HC ⊢
                      clear hz hcc
                      cases cc with
                      | true =>
                        clear z0
                        go_wp2
                        go_roundw
                        case rel => exact ⟨j + 1, by omega, by go_num, by rw [HC.out]; rfl, by first | rfl | trivial⟩
                        case measure => simp [intOf]; omega
                      | false =>
                        by_cases hzq : z = q
                        · subst hzq
                          go_wp2
                          go_roundw
                          case rel => exact ⟨j + 1, by omega, by go_num, by rw [HC.out]; simp, by first | rfl | trivial⟩
                          case measure => simp [intOf]; omega
                        · go_wp2
                          go_roundw
                          case rel => exact ⟨j + 1, by omega, by go_num, by rw [HC.out]; simp [hzq], by first | rfl | trivial⟩
                          case measure => simp [intOf]; omega
                    · have hjj : j = hs.length := by omega
                      subst hjj
                      rw [show (hs.take hs.length).contains q = true by rw [List.take_length]; simpa using HQ.out]
                      clear hj hjl
                      go_wp2
                      go_loopw [17, 20] (fun h i wq => ∃ j : Nat, j ≤ xs.length ∧ i = .int .i64 j ∧ h = .bool true ∧ w7 = wq) (fun _ i _ => xs.length - (intOf i).toNat)
                      case atStart => exact ⟨0, Nat.zero_le _, by first | rfl | trivial, by first | rfl | trivial, by first | rfl | trivial⟩
                      case round =>
                        obtain ⟨j, hj, rfl, rfl, rfl⟩ := hrel
                        by_cases hjl : j < xs.length
                        · obtain ⟨z, hz⟩ : ∃ z, xs[j]? = some z := ⟨_, List.getElem?_eq_getElem hjl⟩
                          obtain ⟨b8, o8, c8, e8, z0, _, _⟩ := HS.out.2.2.intAt hz
                          simp only [Value.slice.injEq] at e8
                          obtain ⟨rfl, _, rfl⟩ := e8
                          have hzq : ¬ z = q := fun e => HY.out.2.2.2.2.2 (e ▸ List.mem_of_getElem? hz)
                          have z0 := H7.out.2.cell (HD6.out.k.cell z0 id) id
                          clear hz
                          go_wp2
                          go_roundw
                          case rel => exact ⟨j + 1, by omega, by go_num, by first | rfl | simp [hzq], by first | rfl | trivial⟩
                          case measure => simp [intOf]; omega
                        · go_wp2
                          have hids : IntKind.u64.wrap (vat xh f + 1) = ids := HY.out.2.2.1.symm
                          have hfw : IntKind.i64.wrap (f : Int) = f := by rw [IntKind.wrap_i64]; omega
                          have hAt := r4at_any (.slice A0 xh.length c0) xh f w7.drew _ ((HS.out.2.1.new HD6.out.k).new ((H7.out.2).drew))
                          have hqb : (q == (M : Int)) = false := beq_eq_false_iff_ne.2 hqM
                          refine wp_region_plan No (.pur 0 (.pur 1 (.pur 2 (.pur 3 (.pur 4 (.pur 5 (.pur 6 (.pur 7 (.pur 8 (.pur 10 (.pur 15 (.rd 9 (.rd 11 (.pur 12 (.rd 16 (.grow 13 (.pur 14 (.pur 17 (.pur 18 .fin))))))))))))))))))) [] mixed (by kernel_rfl) ?_
                          repeat ((first | refine pl_pur (by simp only [List.getD_cons_succ, List.getD_cons_zero]; rfl) _ (by rfl) (fun W => by go_simp; with_reducible rfl) ?_ | refine pl_rd (by simp only [List.getD_cons_succ, List.getD_cons_zero]; rfl) _ (by rfl) (fun W hW => by have hc := hW.cell ((show w7.drew.cell? ⟨wr.heap.size, 3, none⟩ = some (.slice A0 xh.length c0) from f3)) id; clear hW; go_simp; with_reducible rfl) ?_ | refine pl_rd (by simp only [List.getD_cons_succ, List.getD_cons_zero]; rfl) _ (by rfl) (fun W hW => by have hc := hW.cell ((show w7.drew.cell? ⟨w6.heap.size, 0, none⟩ = some (.int .u8 f) from t0)) id; clear hW; go_simp; with_reducible rfl) ?_ | refine pl_rd (by simp only [List.getD_cons_succ, List.getD_cons_zero]; rfl) _ (by rfl) (fun W hW => by have hc := hW.cell ((show w7.drew.cell? ⟨w6.heap.size, 1, none⟩ = some (.int .u64 ids) from t1)) id; clear hW; go_simp; with_reducible rfl) ?_); simp only [Act.put, List.setIfInBounds_toArray, List.set_cons_zero, List.set_cons_succ])
                          refine pl_grow (by simp only [List.getD_cons_succ, List.getD_cons_zero]; rfl) ?_
                          go_wp2_with (go_at_call 27; go_must ((with_reducible refine hAt.mono ?_); rintro r w8 ⟨rfl, rfl⟩))
                          refine GPost.mk (Kept.refl _ _) ?_
                          repeat ((first | refine pl_pur (by simp only [List.getD_cons_succ, List.getD_cons_zero]; rfl) _ (by rfl) (fun W => by go_simp; with_reducible rfl) ?_ | refine pl_rd (by simp only [List.getD_cons_succ, List.getD_cons_zero]; rfl) _ (by rfl) (fun W hW => by have hc := kcell hW; clear hW; go_simp; with_reducible rfl) ?_); simp only [Act.put, List.setIfInBounds_toArray, List.set_cons_zero, List.set_cons_succ])
                          refine pl_fin ?_
                          go_wp2
                          go_roundw
                          case rel => exact ⟨k + 1, by omega, by go_num, R, G, O6, y, HD6.out.new ((H7.out.2).drew), HY.out.1, HY.out.2.1⟩
                          case measure => simp [intOf]; omega
              · go_wp2_with (first
                | (go_at_call 41; go_must ((with_reducible refine (great20_no _ hgx).mono ?_); rintro e w5 ⟨rfl, hk5⟩; have f0 := hk5.cell (p := ⟨wr.heap.size, 0, none⟩) (show _ = some (.int .i64 xk) by simp) id; have f1 := hk5.cell (p := ⟨wr.heap.size, 1, none⟩) (show _ = some (.int .i64 xp) by simp) id; have f2 := hk5.cell (p := ⟨wr.heap.size, 2, none⟩) (show _ = some (.int .i64 xt) by simp) id; have f3 := hk5.cell (p := ⟨wr.heap.size, 3, none⟩) (show _ = some (.slice A0 xh.length c0) by simp) id; have f4 := hk5.cell (p := ⟨wr.heap.size, 4, none⟩) (show _ = some (.slice A1 xs.length c1) by simp) id; have HD5 : Hid (Duo w w5 b rb px N R G O x) := HT.out.1.new (((Kept.refl _ wr).alloc _).trans hk5); have hb15 := World.block_lt_of_cell? w5 _ f0; clear hk5 d0 d1 d2 d3 d4))
                | (go_at_call 15; go_must ((with_reducible refine (duo_gone (w5.alloc (.cells #[.int .i64 xp] 3)) (HD5.out.new ((Kept.refl _ _).alloc _)) xp (by simp) HS.out.1 (by have := HD5.out.m.lt.2; omega)).mono ?_); rintro e w6 ⟨⟨gi, rfl⟩, h6⟩)))
                go_roundw
                case rel => exact ⟨k + 1, by omega, by go_num, _, G, O, x, h6, HT.out.2.1, HT.out.2.2⟩
                case measure => simp [intOf]; omega
        · go_wp2_with (go_at_call 37; ((with_reducible refine (HA _).mono ?_); rintro e w6 ⟨rfl, hk6⟩))
          go_ret
          exact ⟨rfl, hduo.k.trans hk6⟩
end Go.Proofs.Ytfnecdkfhackkaa
