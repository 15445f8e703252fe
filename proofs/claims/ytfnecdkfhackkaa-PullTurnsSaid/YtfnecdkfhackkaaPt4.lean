/- PullTurns: the walk. -/
import Derived.Test.YtfnecdkfhackkaaPt3
set_option linter.unusedVariables false
set_option linter.unusedSimpArgs false
namespace Go.Proofs.Ytfnecdkfhackkaa
open Go.RowKit

set_option maxHeartbeats 8000000 in
set_option maxRecDepth 20000 in
theorem pturns_any (n me again : Int) (v : Value) (l : List Bool) (w : World) (hl : Sl kB w (Old w) v l) : Calls Try.prog 8 #[.int .i64 n, .int .i64 me, .int .i64 again, v] w fun e w' => e = .returned (.bool true) ∧ Kept No w w' := by
  obtain ⟨A, c, rfl, hc1, hc2⟩ := hl.slice
  simp only [maxLen] at hc2
  have HA := fun W => awake20g W
  by_cases g0 : n < 2
  · clear hl
    go_enter Try.func8, Try.ntmps8
    go_wp2_with (go_at_call 37; ((with_reducible refine (HA _).mono ?_); rintro e w' ⟨rfl, hk⟩))
    go_ret
    exact ⟨rfl, hk⟩
  by_cases g1 : 20 < n
  · clear hl
    go_enter Try.func8, Try.ntmps8
    go_wp2_with (go_at_call 37; ((with_reducible refine (HA _).mono ?_); rintro e w' ⟨rfl, hk⟩))
    go_ret
    exact ⟨rfl, hk⟩
  by_cases g2 : 100 < l.length
  · have g2' : (100 : Int) < (l.length : Int) := by omega
    clear hl
    go_enter Try.func8, Try.ntmps8
    go_wp2_with (go_at_call 37; ((with_reducible refine (HA _).mono ?_); rintro e w' ⟨rfl, hk⟩))
    go_ret
    exact ⟨rfl, hk⟩
  have g2' : ¬ (100 : Int) < (l.length : Int) := by omega
  by_cases g3 : me < 0
  · clear hl
    go_enter Try.func8, Try.ntmps8
    go_wp2_with (go_at_call 37; ((with_reducible refine (HA _).mono ?_); rintro e w' ⟨rfl, hk⟩))
    go_ret
    exact ⟨rfl, hk⟩
  by_cases g4 : n ≤ me
  · clear hl
    go_enter Try.func8, Try.ntmps8
    go_wp2_with (go_at_call 37; ((with_reducible refine (HA _).mono ?_); rintro e w' ⟨rfl, hk⟩))
    go_ret
    exact ⟨rfl, hk⟩
  by_cases g5 : again < 1
  · clear hl
    go_enter Try.func8, Try.ntmps8
    go_wp2_with (go_at_call 37; ((with_reducible refine (HA _).mono ?_); rintro e w' ⟨rfl, hk⟩))
    go_ret
    exact ⟨rfl, hk⟩
  by_cases g6 : 1000 < again
  · clear hl
    go_enter Try.func8, Try.ntmps8
    go_wp2_with (go_at_call 37; ((with_reducible refine (HA _).mono ?_); rintro e w' ⟨rfl, hk⟩))
    go_ret
    exact ⟨rfl, hk⟩
  obtain ⟨N, rfl⟩ : ∃ N : Nat, n = N := ⟨n.toNat, by omega⟩
  obtain ⟨M, rfl⟩ : ∃ M : Nat, me = M := ⟨me.toNat, by omega⟩
  obtain ⟨ag, rfl⟩ : ∃ ag : Nat, again = ag := ⟨again.toNat, by omega⟩
  have hN2 : 2 ≤ N := by omega
  have hN20 : N ≤ 20 := by omega
  have hMN : M < N := by omega
  have hag1 : 1 ≤ ag := by omega
  have hag2 : ag ≤ 1000 := by omega
  obtain ⟨t, ht⟩ : ∃ t : Nat → Bool, t = fun p => l.getD p false && decide (p ≠ M) := ⟨_, rfl⟩
  have htM : t M = false := by rw [ht]; simp
  have HT : Hid (t = fun p => l.getD p false && decide (p ≠ M)) := ht
  have HL : Hid (Sl kB w (Old w) (.slice A l.length c) l) := hl
  have hnew := fun W => new_any N W
  rw [show (max 1 (min (N : Int) 64)).toNat = N by omega] at hnew
  have hcap : capN N = N := by unfold capN; omega
  have hmeN : meN N M = M := by unfold meN; rw [hcap]; omega
  obtain ⟨X0, hX0⟩ : ∃ X, X = newP N M ag := ⟨_, rfl⟩
  have hpnew := fun W => pnew_any N M ag W
  rw [← hX0] at hpnew
  have HX : Hid (TS t N M ag X0 0 ∧ X0.last = M ∧ X0.want = none) := by
    have e : X0 = ⟨N, M, ag, none, N - 1, M, 0⟩ := by rw [hX0, newP, hcap, hmeN, show max 1 (min (ag : Int) 1099511627776) = (ag : Int) by omega]
    refine ⟨⟨⟨hN2, by omega, htM, by rw [e], by rw [e]⟩, by rw [hX0]; exact newP_ok _ _ _, by rw [e], hag2, by rw [e]; rfl, by omega, .inl ⟨rfl, by rw [e], by rw [e]⟩⟩, by rw [e], by rw [e]⟩
  have h00 : List.replicate N (zrow N) = rowsT t N 0 := (rowsT_zero t N).symm
  have HTM : Hid (t M = false) := htM
  clear hl ht hcap hmeN hX0 htM
  go_enter Try.func8, Try.ntmps8
  go_wp2_with (first
    | (go_at_call 13; go_must ((with_reducible refine (hnew w).mono ?_); rintro e w1 ⟨b, rb, G1, rfl, hma, hka, hra, _, _⟩; rw [h00] at hma; have H1 : Hid (MatAt w1 b rb N (rowsT t N 0) G1 ∧ Kept No w w1 ∧ w.heap.size ≤ rb) := ⟨hma, hka, hra⟩; clear hma hka hra)))
  clear hnew h00
  go_loopw [10, 11] (fun cc i wr => ∃ q : Nat, q ≤ N ∧ i = .int .i64 q ∧ cc = .int .i64 (cnt t q : Nat) ∧ ∃ G, MatAt wr b rb N (rowsT t N q) G ∧ Kept No w wr) (fun _ i _ => N - (intOf i).toNat)
  case atStart => exact ⟨0, Nat.zero_le _, rfl, rfl, G1, H1.out.1, H1.out.2.1⟩
  case round =>
    obtain ⟨q, hq, rfl, rfl, G, hmat, hkw⟩ := hrel
    by_cases hlt : q < N
    · have hcl := cnt_le t q
      have hrb := hmat.lt.2
      have HM : Hid (MatAt wr b rb N (rowsT t N q) G ∧ Kept No w wr) := ⟨hmat, hkw⟩
      have hw1 : IntKind.i64.wrap ((cnt t q : Nat) + 1 : Int) = ((cnt t q + 1 : Nat) : Int) := by rw [IntKind.wrap_i64]; omega
      clear hmat hkw
      by_cases hql : q < l.length
      · obtain ⟨bv, hbv⟩ : ∃ z, l[q]? = some z := ⟨_, List.getElem?_eq_getElem hql⟩
        obtain ⟨bl, off, c', e1, z0, _⟩ := HL.out.boolAt hbv
        simp only [Value.slice.injEq] at e1
        obtain ⟨rfl, _, rfl⟩ := e1
        have z0 := HM.out.2.cell z0 id
        have hget : l.getD q false = bv := by rw [List.getD_eq_getElem?_getD, hbv]; rfl
        cases bv with
        | false =>
          have HF : Hid (t q = false) := by show t q = false; rw [HT.out]; simp only [hget]; rfl
          clear hget hbv
          go_wp2
          go_roundw
          case rel => exact ⟨q + 1, by omega, by go_num, by simp only [cnt, HF.out, bn]; rfl, G, by rw [rowsT_skip HF.out]; exact HM.out.1, HM.out.2⟩
          case measure => simp [intOf]; omega
        | true =>
          by_cases hqM : q = M
          · subst hqM
            clear hget hbv
            go_wp2
            go_roundw
            case rel => exact ⟨q + 1, by omega, by go_num, by simp only [cnt, HTM.out, bn]; rfl, G, by rw [rowsT_skip HTM.out]; exact HM.out.1, HM.out.2⟩
            case measure => simp [intOf]; omega
          · have HF : Hid (t q = true) := by show t q = true; rw [HT.out]; simp only [hget]; simp [hqM]
            have hqM' : ¬ (q : Int) = (M : Int) := by omega
            clear hget hbv
            have hc3 : (wr.alloc (.cells #[.int .u64 1] 26)).cell? ⟨wr.heap.size, 0, none⟩ = some (.int .u64 1) := (by simp)
            have T1 := tell_any (F := fun k => k = wr.heap.size) _ (HM.out.1.new ((Kept.refl No wr).alloc (.cells #[.int .u64 1] 26))) q 0 (by simp [inr_u64]) (.slice none 0 0) (.slice (some ⟨wr.heap.size, 0, none⟩) 1 1) [] [1] (Sl.nil _ _ _) (sl_one hc3 (by simp [inr_u64]) rfl) (by omega) (by simp) (by simp)
            rw [rowsT_tell hlt HF.out] at T1
            clear hc3
            go_wp2_with (go_at_call 16; go_must ((with_reducible refine T1.mono ?_); rintro e w2 ⟨rfl, hm2, hk2⟩))
            go_roundw
            case rel => exact ⟨q + 1, by omega, by go_num, by simp only [cnt, HF.out, bn]; first | rfl | (simp; done) | simp [hw1], _, hm2, (HM.out.2.alloc _).trans2 hk2 (by have := H1.out.2.2; intro i hi e; have e : i = rb := e; omega)⟩
            case measure => simp [intOf]; omega
      · have HF : Hid (t q = false) := by show t q = false; rw [HT.out]; simp only [List.getD_eq_getElem?_getD, List.getElem?_eq_none (Nat.le_of_not_lt hql)]; rfl
        have hql' : ¬ (q : Int) < (l.length : Int) := by omega
        go_wp2
        go_roundw
        case rel => exact ⟨q + 1, by omega, by go_num, by simp only [cnt, HF.out, bn]; rfl, G, by rw [rowsT_skip HF.out]; exact HM.out.1, HM.out.2⟩
        case measure => simp [intOf]; omega
    · have hqq : N = q := by omega
      subst hqq
      obtain ⟨m, hm⟩ : ∃ m, m = cnt t N := ⟨_, rfl⟩
      have hm20 : m ≤ 20 := by rw [hm]; exact Nat.le_trans (cnt_le t N) hN20
      rw [← hm]
      have HM : Hid (MatAt wr b rb N (rowsT t N N) G ∧ Kept No w wr ∧ m = cnt t N) := ⟨hmat, hkw, hm⟩
      have HP : Hid (TP t N M = false ∧ m = cnt (TP t N) N) := ⟨by show (decide (M < N) && t M) = false; rw [HTM.out]; simp, by rw [hm]; exact cnt_congr fun k hk => by show _ = (decide (k < N) && t k); simp [hk]⟩
      clear hmat hkw hm hlt hq
      go_wp2_with (first
        | (go_at_call 38; go_must ((with_reducible refine (hpnew wr).mono ?_); rintro e w2 ⟨rfl, hp, hk2⟩; obtain ⟨px, hpx⟩ : ∃ k, k = wr.heap.size := ⟨_, rfl⟩; rw [← hpx] at hp ⊢; have HD0 := (show Hid _ from duo_start HM.out.1 HM.out.2.1 H1.out.2.2 hp HX.out.2.2 hk2 hpx HX.out.1.ok); have hpx2 := lt_of_heap hp; clear hp hk2 hpx))
        | (at_make; go_must (refine wpList_make_tws (d := kI .i64) rfl _ _ 42 rfl 3 (.int .i64 0) 8 Try.underlying42 info_i64 rfl 0 (kI_zero .i64 (by first | decide | simp [inr_i64])) 20 rfl rfl (by decide) (by decide) ?_; intro w3 ht3 hk3 hx3; have HM3 : Hid (MetAt w3 w2.heap.size (fun _ => 0) ∧ Kept No w2 w3) := ⟨metStart ht3 hx3, hk3⟩; clear ht3 hk3 hx3)))
      clear hpnew
      obtain ⟨mb, hmb⟩ : ∃ k, k = w2.heap.size := ⟨_, rfl⟩
      rw [← hmb] at HM3 hpx2 ⊢
      have HB : Hid (mb ≠ b ∧ mb ≠ rb ∧ ¬ G mb ∧ w.heap.size ≤ mb) := by
        have h1 := HD0.out.m.lt
        have h2 := HD0.out.k.size
        exact ⟨by omega, by omega, fun e => by have := HD0.out.m.glt _ e; omega, by omega⟩
      clear hmb
      have hm3 : mb < w3.heap.size := by obtain ⟨⟨cur, h⟩, _⟩ := HM3.out.1; exact lt_of_heap h
      go_loopw [14, 15] (fun nw i wq => ∃ i' : Nat, i' ≤ 2 * m ∧ i = .int .i64 i' ∧ nw = .int .i64 ((i' * ag : Nat) : Int) ∧ ∃ O x met, Duo w wq b rb px N (rowsT t N N) G O x ∧ TS t N M ag x i' ∧ Turn (TP t N) N M m i' x.last met ∧ MetAt wq mb met ∧ ¬ O mb ∧ mb < wq.heap.size) (fun _ i _ => 2 * m - (intOf i).toNat)
      case atStart => exact ⟨0, Nat.zero_le _, rfl, by simp, _, X0, fun _ => 0, HD0.out.new HM3.out.2, HX.out.1, by rw [HX.out.2.1]; exact Turn.start hMN HP.out.1, HM3.out.1, fun e => by have e : mb = px := e; omega, hm3⟩
      case round =>
        obtain ⟨i, hi, rfl, rfl, O, x, met, hduo, hts, hturn, hmet, hno, hml⟩ := hrel
        by_cases hil : i < 2 * m
        · obtain ⟨q, hqN, hPq, hfind, hmq, hturn'⟩ := hturn.step hMN HP.out.1 HP.out.2 (by omega)
          obtain ⟨y, hn1, hts', hyl, hn2⟩ := hts.step (by omega) hfind
          obtain ⟨T, hT⟩ : ∃ T, T = i * ag := ⟨_, rfl⟩
          have hTb : T ≤ 39 * 1000 := by rw [hT]; exact Nat.mul_le_mul (by omega) hag2
          rw [← hT] at hn1 hn2 ⊢
          have hw2 : IntKind.i64.wrap ((T : Int) + (ag : Int)) = (T : Int) + ag := by rw [IntKind.wrap_i64]; omega
          have hw3 : IntKind.i64.wrap ((T : Int) + (ag : Int) - 1) = (T : Int) + ag - 1 := by rw [IntKind.wrap_i64]; omega
          have hw4 : IntKind.i64.wrap (2 * (m : Int)) = 2 * (m : Int) := by rw [IntKind.wrap_i64]; omega
          have hil' : (i : Int) < 2 * (m : Int) := by omega
          have hq0 : ¬ (q : Int) < 0 := by omega
          have hq19 : ¬ (19 : Int) < (q : Int) := by omega
          have hq20 : q < 20 := by omega
          have hmw : IntKind.i64.wrap ((met q : Nat) + 1 : Int) = ((met q : Nat) : Int) + 1 := by
            have := Nat.div_le_self i m
            rw [hmq, IntKind.wrap_i64]; omega
          have C1 := duo_next2 _ hduo (T : Int) (.slice none 0 0) (.slice none 0 0) [] [] (F := fun _ => False) (fun _ h => h.elim) (Sl.nil _ _ _) (Sl.nil _ _ _) hn1
          have HS : Hid (TS t N M ag y (i + 1) ∧ y.last = q ∧ Turn (TP t N) N M m (i + 1) y.last (fun x => if x = q then met x + 1 else met x) ∧ met q = i / m ∧ nextI y ⟨[], N, rowsT t N N, []⟩ ((T : Int) + ag - 1) = (y, (0, 0), -1, false) ∧ T = i * ag) := ⟨hts', hyl, by rw [hyl]; exact hturn', hmq, hn2, hT⟩
          have HQ : Hid (MetAt wr mb met ∧ ¬ O mb ∧ ∀ k, O k → k < wr.heap.size) := ⟨hmet, hno, fun k h => (hduo.ol k h).2⟩
          clear hqN hPq hfind hmq hturn' hn1 hts' hyl hn2 hT hduo hts hturn hmet hno
          go_wp2_with (go_at_call 39; go_must (first
            | ((with_reducible refine C1.mono ?_); rintro e w4 ⟨rfl, ⟨O4, h4, ho4⟩, hk4⟩; have hml4 : mb < w4.heap.size := Nat.lt_of_lt_of_le hml hk4.size; have H4 : Hid (Duo w (w4.alloc (.cells #[.int .u8 0, .int .u64 1] 40)) b rb px N (rowsT t N N) G O4 y ∧ MetAt (w4.alloc (.cells #[.int .u8 0, .int .u64 1] 40)) mb met ∧ ¬ O4 mb ∧ ∀ k, O4 k → k < w4.heap.size) := ⟨h4.new ((Kept.refl _ _).alloc _), (HQ.out.1.kept hk4 HQ.out.2.1).kept ((Kept.refl No _).alloc _) id, (fun e => (ho4 _ e).elim HQ.out.2.1 (fun e => by omega)), fun k h => (h4.ol k h).2⟩; have C2 := duo_next2 _ H4.out.1 ((T : Int) + ag - 1) (.slice none 0 0) (.slice none 0 0) [] [] (F := fun _ => False) (fun _ h => h.elim) (Sl.nil _ _ _) (Sl.nil _ _ _) HS.out.2.2.2.2.1; clear h4 ho4 hk4 C1)
            | ((with_reducible refine C2.mono ?_); rintro e w5 ⟨rfl, ⟨O5, h5, ho5⟩, hk5⟩; have t0 := hk5.cell (p := ⟨w4.heap.size, 0, none⟩) (show _ = some (.int .u8 0) by simp) (fun e => absurd (H4.out.2.2.2 _ e) (Nat.lt_irrefl _)); have t1 := hk5.cell (p := ⟨w4.heap.size, 1, none⟩) (show _ = some (.int .u64 1) by simp) (fun e => absurd (H4.out.2.2.2 _ e) (Nat.lt_irrefl _)); have hml5 : mb < w5.heap.size := (by have := hk5.size; simp at this; omega); have H5 : Hid (Duo w w5 b rb px N (rowsT t N N) G O5 y ∧ MetAt w5 mb met ∧ ¬ O5 mb) := ⟨h5, H4.out.2.1.kept hk5 H4.out.2.2.1, fun e => (ho5 _ e).elim H4.out.2.2.1 (fun e => by simp at e; omega)⟩; have m0 := H5.out.2.1.2 q hq20; have mf := H5.out.2.1.fro q; have ht5 := World.block_lt_of_cell? w5 _ t0; clear h5 ho5 hk5 C2)))
          have hput := H5.out.2.1.put hq20
          have hk6 : Kept (fun k => k = mb) w5 ((w5.setCell ⟨mb, q, none⟩ (.int .i64 (((met q : Nat) : Int) + 1))).alloc (.cells #[.int .u8 0, .int .u64 0] 40)) := Kept.alloc (Kept.setCell (F := fun k => k = mb) (p := ⟨mb, q, none⟩) (Kept.refl _ w5) (fun _ => rfl) _) _
          have hduo6 := H5.out.1.put hk6 HB.out.1 HB.out.2.1 HB.out.2.2.1 H5.out.2.2 HB.out.2.2.2
          have hmet6 : MetAt ((w5.setCell ⟨mb, q, none⟩ (.int .i64 (((met q : Nat) : Int) + 1))).alloc (.cells #[.int .u8 0, .int .u64 0] 40)) mb _ := hput.kept ((Kept.refl No _).alloc _) id
          have hml6 : mb < ((w5.setCell ⟨mb, q, none⟩ (.int .i64 (((met q : Nat) : Int) + 1))).alloc (.cells #[.int .u8 0, .int .u64 0] 40)).heap.size := Nat.lt_of_lt_of_le hml5 hk6.size
          obtain ⟨wz, hW⟩ : ∃ wz, wz = ((w5.setCell ⟨mb, q, none⟩ (.int .i64 (((met q : Nat) : Int) + 1))).alloc (.cells #[.int .u8 0, .int .u64 0] 40)) := ⟨_, rfl⟩
          rw [← hW] at hduo6 hmet6 hml6 ⊢
          have hc6 : wz.cell? ⟨mb, q, none⟩ = some (.int .i64 (((met q : Nat) : Int) + 1)) := (hmet6.2 q hq20).trans (by simp)
          have HW6 : Hid (Duo w wz b rb px N (rowsT t N N) G O5 y ∧ MetAt wz mb (fun x => if x = q then met x + 1 else met x)) := ⟨hduo6, hmet6⟩
          clear hW hk6 hput hduo6 hmet6 m0 mf t0 t1
          have hm0 : ¬ m = 0 := by omega
          have h40 : met q ≤ 40 := by rw [HS.out.2.2.2.1]; exact Nat.le_trans (Nat.div_le_self i m) (by omega)
          have hwq : IntKind.i64.wrap ((met q : Nat) : Int) = ((met q : Nat) : Int) := by rw [IntKind.wrap_i64]; omega
          have hq20i : (q : Int) < 20 := by omega
          have hq0i : (0 : Int) ≤ q := by omega
          clear hq0 hq19
          have hquo : (i : Int).tdiv (m : Int) = ((met q : Nat) : Int) := by rw [HS.out.2.2.2.1]; rfl
          refine wp_region_plan No (.pur 0 (.pur 1 (.pur 2 (.pur 4 (.pur 5 (.pur 6 (.pur 7 (.rd 3 (.pur 8 .fin))))))))) [] mixed (by kernel_rfl) ?_
          repeat ((first | refine pl_pur (by simp only [List.getD_cons_succ, List.getD_cons_zero]; rfl) _ (by rfl) (fun W => by go_simp; with_reducible rfl) ?_ | refine pl_rd (by simp only [List.getD_cons_succ, List.getD_cons_zero]; rfl) _ (by rfl) (fun W hW => by have hc := hW.cell ((show wz.drew.cell? ⟨mb, q, none⟩ = some (.int .i64 (((met q : Nat) : Int) + 1)) from hc6)) id; clear hW; go_simp; with_reducible rfl) ?_); simp only [Act.put, List.setIfInBounds_toArray, List.set_cons_zero, List.set_cons_succ])
          refine pl_fin ?_
          go_wp2
          go_roundw
          case rel => exact ⟨i + 1, by omega, by go_num, by rw [HS.out.2.2.2.2.2, Nat.add_mul, Nat.one_mul]; first | rfl | simp, O5, y, _, HW6.out.1.new ((Kept.refl No _).drew), HS.out.1, HS.out.2.2.1, HW6.out.2.kept ((Kept.refl No _).drew) id, H5.out.2.2, hml6⟩
          case measure => simp [intOf]; omega
        · have hii : i = 2 * m := by omega
          subst hii
          have hil' : ¬ (2 * (m : Int)) < 2 * (m : Int) := by omega
          obtain ⟨y, hnx, hct⟩ := next_done hts.c hts.ok (by
            intro f s a u e
            rcases hts.w with ⟨_, h, _⟩ | ⟨_, h⟩
            · rw [h] at e; cases e
            · rw [h] at e; injection e with e; injection e with e1 e2; injection e2 with e2 _; exact ⟨e1.symm, e2.symm⟩) (((2 * m * ag : Nat) : Int))
          rw [hts.ct] at hct
          have hct : y.count = 2 * (m : Int) := by rw [hct]; omega
          obtain ⟨T, hT⟩ : ∃ T, T = 2 * m * ag := ⟨_, rfl⟩
          rw [← hT] at hnx ⊢
          have hw4 : IntKind.i64.wrap (2 * (m : Int)) = 2 * (m : Int) := by rw [IntKind.wrap_i64]; omega
          have hw5 : IntKind.u64.wrap (2 * (m : Int)) = 2 * (m : Int) := by rw [IntKind.wrap_u64]; omega
          have C1 := duo_next2 (wr.alloc (.cells #[.int .u64 1] 26)) (hduo.new ((Kept.refl _ _).alloc _)) (T : Int) (.slice (some ⟨wr.heap.size, 0, none⟩) 1 1) (.slice none 0 0) [1] [] (F := fun k => k = wr.heap.size) (by rintro k rfl; exact ⟨by simp, fun h => absurd (hduo.ol _ h).2 (Nat.lt_irrefl _)⟩) (sl_one (by simp) (by simp [inr_u64]) rfl) (Sl.nil _ _ _) hnx
          have HCT : Hid (y.count = 2 * (m : Int)) := hct
          clear hnx hct hT hduo hts hturn hmet hno
          go_wp2_with (first
            | (go_at_call 39; go_must ((with_reducible refine C1.mono ?_); rintro e w4 ⟨rfl, ⟨O4, h4, _⟩, _⟩; have h5 := h4.new ((Kept.refl No w4).alloc (.cells #[.int .u8 0, .int .u64 0] 40)); obtain ⟨pv, hpx, _⟩ := h5.p; have C2 := asked_any hpx; rw [HCT.out] at C2; have H4 : Hid (Kept No w (w4.alloc (.cells #[.int .u8 0, .int .u64 0] 40))) := h5.k; clear h4 h5 hpx C1))
            | (go_at_call 40; go_must ((with_reducible refine C2.mono ?_); rintro e w5 ⟨rfl, rfl⟩))
            | (go_at_call 37; go_must ((with_reducible refine (HA _).mono ?_); rintro e w6 ⟨rfl, hk6⟩)))
          go_ret
          exact ⟨rfl, H4.out.trans hk6⟩
end Go.Proofs.Ytfnecdkfhackkaa
