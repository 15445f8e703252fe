/- MatrixRises: the walk. -/
import Derived.Test.YtfnecdkfhackkaaL18b
import Derived.Test.YtfnecdkfhackkaaMTurns
set_option linter.unusedVariables false
set_option linter.unusedSimpArgs false
namespace Go.Proofs.Ytfnecdkfhackkaa
open Go.RowKit

theorem sl_empty {α : Type} {d : Kd α} {w : World} {F : Nat → Prop} {A : Option Addr} {c : Nat} (hc : c ≤ maxLen) : Sl d w F (.slice A 0 c) [] :=
  ⟨[], ⟨A, c, rfl, Nat.zero_le _, hc, by simp, by simp, fun h => by simp at h⟩, Reps.none _ _⟩
/-- One matrix. -/
structure One (w0 w : World) (b rb n : Nat) (R : List Row) (G : Nat → Prop) : Prop where
  m : MatAt w b rb n R G
  k : Kept No w0 w
  l : w0.heap.size ≤ rb
theorem One.new {w0 w w1 : World} {b rb n : Nat} {R : List Row} {G : Nat → Prop} (h : One w0 w b rb n R G) (hk : Kept No w w1) : One w0 w1 b rb n R G := ⟨h.m.new hk, h.k.trans hk, h.l⟩
theorem one_gone {w0 : World} {b rb n c : Nat} {R : List Row} {G : Nat → Prop} (w : World) (h : One w0 w b rb n R G) (p : Int) (hc : w.cell? ⟨c, 0, none⟩ = some (.int .i64 p)) (hp : InR .i64 p) (hne : rb ≠ c) :
    Calls Try.prog 15 #[.pointer (some ⟨b, 0, none⟩), .slice (some ⟨c, 0, none⟩) 1 1] w fun e w' => e = .returned (.int .i64 (gone1n R p)) ∧ One w0 w' b rb n (gone1 R p) G ∧ Kept (fun k => k = rb) w w' := by
  refine (gone_one w h.m p hc hp hne).mono ?_
  rintro e w' ⟨h1, h2, h3⟩
  exact ⟨h1, ⟨h2, h.k.trans2 h3 (fun i hi e => by have := h.l; omega), h.l⟩, h3⟩
theorem one_tell {w0 : World} {b rb n : Nat} {R : List Row} {G : Nat → Prop} (w : World) (h : One w0 w b rb n R G) (p inst : Int) (vd vh : Value) (done held : List Int) (hi : InR .u64 inst)
    (hd : Sl (kI .u64) w0 (Old w0) vd done) (hh : Sl (kI .u64) w0 (Old w0) vh held) (hld : done.length ≤ 100) (hlh : held.length ≤ 100) :
    Calls Try.prog 16 #[.pointer (some ⟨b, 0, none⟩), .int .i64 p, .int .u64 inst, vd, vh] w fun e w' => e = .returned (.tuple #[]) ∧ (∃ G, One w0 w' b rb n (tell R p inst done held) G) ∧ Kept (fun k => k = rb) w w' := by
  refine (tell_any (F := Old w0) w h.m p inst hi vd vh done held (hd.new h.k) (hh.new h.k) (fun e => by have := h.l; simp only [Old] at e; omega) (by omega) (by omega)).mono ?_
  rintro e w' ⟨h1, h2, h3⟩
  exact ⟨h1, ⟨_, h2, h.k.trans2 h3 (fun i hi e => by have := h.l; omega), h.l⟩, h3⟩

set_option maxHeartbeats 4000000 in
set_option maxRecDepth 20000 in
theorem rises_any (n : Int) (v : Value) (l : List Deed) (w : World) (hl : Sl kDeed w (Old w) v l) : Calls Try.prog 4 #[.int .i64 n, v] w fun e w' => e = .returned (.bool true) ∧ Kept No w w' := by
  obtain ⟨A, c, rfl, hlm, hat⟩ := deeds_at hl
  have HA := fun W => awake18_any W
  by_cases hbig : 100 < l.length
  · have h1 : (100 : Int) < (l.length : Int) := by omega
    clear hl hat
    go_enter Try.func4, Try.ntmps4
    go_wp2_with (go_at_call 12; ((with_reducible refine (HA _).mono ?_); rintro e w' ⟨rfl, hk⟩))
    go_ret
    exact ⟨rfl, hk⟩
  · have h1 : ¬ (100 : Int) < (l.length : Int) := by omega
    by_cases hn : 20 < n
    · clear hl hat
      go_enter Try.func4, Try.ntmps4
      go_wp2_with (go_at_call 12; ((with_reducible refine (HA _).mono ?_); rintro e w' ⟨rfl, hk⟩))
      go_ret
      exact ⟨rfl, hk⟩
    · obtain ⟨L, hL⟩ : ∃ L, L = l.length := ⟨_, rfl⟩
      rw [← hL] at hlm h1 hbig ⊢
      have HL : Hid (L = l.length) := hL
      have HAT : Hid (∀ j x, l[j]? = some x → ∃ bl off vd vh, A = some ⟨bl, off, none⟩ ∧ bl < w.heap.size ∧ (∀ i u, [.bool x.gone, .int .i64 x.p, .int .u64 x.inst, vd, vh][i]? = some u → w.cell? ⟨bl, off + j * 5 + i, none⟩ = some u) ∧
        InR .i64 x.p ∧ InR .u64 x.inst ∧ Sl (kI .u64) w (Old w) vd x.done ∧ Sl (kI .u64) w (Old w) vh x.held) := hat
      clear hL hat hl
      obtain ⟨N, hN⟩ : ∃ N, N = (max 1 (min n 64)).toNat := ⟨_, rfl⟩
      obtain ⟨R0, hR0⟩ : ∃ R, R = List.replicate N (zrow N) := ⟨_, rfl⟩
      have hnew := fun W => new_any n W
      rw [← hN, ← hR0] at hnew
      have hmx : max 1 n = (N : Int) := by omega
      have hN1 : 1 ≤ N ∧ N ≤ 64 := by omega
      have HR0 : Hid (leftN R0 = N ∧ R0.length = N) := by show _ ∧ _; rw [hR0]; exact ⟨leftN_new N, by simp⟩
      clear hN hR0
      have HMX : Hid (max 1 n = (N : Int)) := hmx
      go_enter Try.func4, Try.ntmps4
      go_wp2_with (first
        | (go_at_call 13; ((with_reducible refine (hnew w).mono ?_); rintro e w1 ⟨b, rb, G1, rfl, hma, hka, hra, hba, hGa⟩; have H1 : Hid (One w w1 b rb N R0 G1) := ⟨hma, hka, hra⟩; have hrb1 := hma.lt.2; clear hma hka hra hba hGa))
        | (go_at_call 18; ((with_reducible refine (stable_any w1 H1.out.m).mono ?_); rintro e w2 ⟨v2, rfl, hs2, hk2⟩; have H2 : Hid (Kept No w1 w2 ∧ Sl (kI .u64) w2 (fun k => k ≠ rb) v2 (stableM N R0)) := ⟨hk2, hs2.mono fun k hk _ => by have := hk.1; omega⟩; clear hk2 hs2))
        | (go_at_call 20; ((with_reducible refine (most_any w2 (H1.out.m.new H2.out.1)).mono ?_); rintro e w3 ⟨v3, rfl, hs3, hk3⟩; have H3 : Hid (Kept No w1 w3 ∧ Kept No w2 w3 ∧ Sl (kI .u64) w3 (fun k => k ≠ rb) v3 (mostM R0)) := ⟨H2.out.1.trans hk3, hk3, hs3.mono fun k hk _ => by have := hk.1; have := H2.out.1.size; omega⟩; clear hk3 hs3))
        | (go_at_call 19; ((with_reducible refine (least_any w3 (H1.out.m.new H3.out.1)).mono ?_); rintro e w4 ⟨rfl, hk4⟩)))
      clear hnew
      go_loopw [6, 7, 8, 9, 10] (fun t6 t7 t8 t9 i wr => ∃ k : Nat, k ≤ L ∧ i = .int .i64 k ∧ ∃ R G, R = (l.take k).foldl deed R0 ∧ One w wr b rb N R G ∧ 1 ≤ leftN R ∧ t6 = .int .i64 (leftN R) ∧ Sl (kI .u64) wr (fun k => k ≠ rb) t7 (stableM N R) ∧ Sl (kI .u64) wr (fun k => k ≠ rb) t8 (mostM R) ∧ t9 = .int .u64 (leastM R)) (fun _ _ _ _ i _ => L - (intOf i).toNat)
      case atStart =>
        exact ⟨0, Nat.zero_le _, rfl, R0, G1, rfl, H1.out.new (H3.out.1.trans hk4), by rw [HR0.out.1]; exact hN1.1, by rw [HR0.out.1, ← HMX.out], H2.out.2.new (H3.out.2.1.trans hk4), H3.out.2.2.new hk4, rfl⟩
      case round =>
        obtain ⟨k, hk, rfl, R, G, hR, hone, hl1, rfl, hs7, hs8, rfl⟩ := hrel
        by_cases hlt : k < L
        · obtain ⟨⟨xg, xp, xi, xd, xh⟩, hx⟩ : ∃ x, l[k]? = some x := ⟨_, List.getElem?_eq_getElem (by rw [← HL.out]; exact hlt)⟩
          have sx := foldl_snoc deed R0 l k _ hx
          rw [← hR] at sx
          obtain ⟨bl, off, vd, vh, rfl, hbl, hcx, px, ix, hdx, hhx⟩ := HAT.out k _ hx
          simp only at hcx hdx hhx px ix
          obtain ⟨A0, c0, rfl, _⟩ := hdx.slice
          obtain ⟨A1, c1, rfl, _⟩ := hhx.slice
          have hkw := hone.k
          have d0 : wr.cell? ⟨bl, off + k * 5, none⟩ = some (.bool xg) := hkw.cell (hcx 0 _ rfl) id
          have d1 := hkw.cell (hcx 1 _ rfl) id
          have d2 := hkw.cell (hcx 2 _ rfl) id
          have d3 := hkw.cell (hcx 3 _ rfl) id
          have d4 := hkw.cell (hcx 4 _ rfl) id
          have hrlt := hone.m.lt.2
          have hwide : Wide N R := hone.m.wide
          have hRl := hone.m.len
          obtain ⟨A7, c7, rfl, _⟩ := hs7.slice
          obtain ⟨A8, c8, rfl, _⟩ := hs8.slice
          obtain ⟨R', hR'⟩ : ∃ R', R' = deed R ⟨xg, xp, xi, xd, xh⟩ := ⟨_, rfl⟩
          have hrise : Rise R R' := by rw [hR']; exact deed_rise _ _
          have HS : Hid (InR .i64 xp ∧ InR .u64 xi ∧ Sl (kI .u64) w (Old w) (.slice A0 xd.length c0) xd ∧ Sl (kI .u64) w (Old w) (.slice A1 xh.length c1) xh) := ⟨px, ix, hdx, hhx⟩
          have HT : Hid (One w wr b rb N R G ∧ (l.take (k + 1)).foldl deed R0 = R' ∧ Rise R R' ∧ Wide N R ∧ R ≠ [] ∧ R' = deed R ⟨xg, xp, xi, xd, xh⟩) := ⟨hone, by rw [sx, hR'], hrise, hwide, fun e => by rw [e] at hRl; simp at hRl; omega, hR'⟩
          obtain ⟨q, hq⟩ : ∃ q, q = leftN R := ⟨_, rfl⟩
          have hq64 : q ≤ 64 := by have := leftN_le R; omega
          obtain ⟨M0, hM0⟩ : ∃ M, M = leastM R := ⟨_, rfl⟩
          obtain ⟨S0, hS0⟩ : ∃ S, S = stableM N R := ⟨_, rfl⟩
          obtain ⟨T0, hT0⟩ : ∃ T, T = mostM R := ⟨_, rfl⟩
          rw [← hq] at hl1 ⊢
          rw [← hM0]
          rw [← hS0] at hs7 ⊢
          rw [← hT0] at hs8 ⊢
          have HQ : Hid (q = leftN R ∧ M0 = leastM R ∧ S0 = stableM N R ∧ T0 = mostM R ∧ Sl (kI .u64) wr (fun k => k ≠ rb) (.slice A7 S0.length c7) S0 ∧ Sl (kI .u64) wr (fun k => k ≠ rb) (.slice A8 T0.length c8) T0) := ⟨hq, hM0, hS0, hT0, hs7, hs8⟩
          clear hkw hcx px ix hdx hhx hone sx hx hR hR' hrise hwide hRl hq hM0 hS0 hT0 hs7 hs8
          have hblr : bl < wr.heap.size := World.block_lt_of_cell? wr _ d0
          by_cases hgx : 100 < xd.length ∨ 100 < xh.length
          · go_wp2_with (first | (go_at_call 14; ((with_reducible refine (great_yes _ hgx).mono ?_); rintro e w5 ⟨rfl, hk5⟩)) | (go_at_call 12; ((with_reducible refine (HA _).mono ?_); rintro e w6 ⟨rfl, hk6⟩)))
            go_ret
            exact ⟨rfl, HT.out.1.k.trans ((((Kept.refl _ wr).alloc _).trans hk5).trans hk6)⟩
          · have hxl : xd.length ≤ 100 ∧ xh.length ≤ 100 := by omega
            go_wp2_with (go_at_call 14; ((with_reducible refine (great_no _ hgx).mono ?_); rintro e w5 ⟨rfl, hk5⟩; have HK5 : Hid (Kept No (wr.alloc (.cells #[.bool xg, .int .i64 xp, .int .u64 xi, .slice A0 xd.length c0, .slice A1 xh.length c1] 29)) w5) := hk5; clear hk5))
            obtain ⟨b1, hb1⟩ : ∃ b, b = wr.heap.size := ⟨_, rfl⟩
            have HF : Hid (w5.cell? ⟨b1, 0, none⟩ = some (.bool xg) ∧ w5.cell? ⟨b1, 1, none⟩ = some (.int .i64 xp) ∧ w5.cell? ⟨b1, 2, none⟩ = some (.int .u64 xi) ∧ w5.cell? ⟨b1, 3, none⟩ = some (.slice A0 xd.length c0) ∧ w5.cell? ⟨b1, 4, none⟩ = some (.slice A1 xh.length c1)) := by
              rw [hb1]
              exact ⟨HK5.out.cell (by simp) id, HK5.out.cell (by simp) id, HK5.out.cell (by simp) id, HK5.out.cell (by simp) id, HK5.out.cell (by simp) id⟩
            have hb1r : rb < b1 := by rw [hb1]; exact hrlt
            have HK5' : Hid (Kept No wr w5) := ((Kept.refl _ wr).alloc _).trans HK5.out
            rw [← hb1]
            have HH5 : Hid (One w w5 b rb N R G) := HT.out.1.new HK5'.out
            have hr5 : rb < w5.heap.size := HH5.out.m.lt.2
            have hb15 : b1 < w5.heap.size := World.block_lt_of_cell? w5 _ HF.out.1
            clear HK5 hb1 d0 d1 d2 d3 d4
            refine wp_region_plan No (.pur 0 (.pur 1 (.pur 4 (.pur 5 (.pur 8 (.pur 9 (.rd 2 (.rd 6 (.rd 10 (.grow 3 (.grow 7 (.grow 11 (.pur 12 (.pur 13 (.pur 14 .fin))))))))))))))) [] mixed (by kernel_rfl) ?_
            repeat ((first | refine pl_pur (by simp only [List.getD_cons_succ, List.getD_cons_zero]; rfl) _ (by rfl) (fun W => by go_simp; with_reducible rfl) ?_ | refine pl_rd (by simp only [List.getD_cons_succ, List.getD_cons_zero]; rfl) _ (by rfl) (fun W hW => by have hc := kcell hW; clear hW; go_simp; with_reducible rfl) ?_); simp only [Act.put, List.setIfInBounds_toArray, List.set_cons_zero, List.set_cons_succ])
            refine pl_rd (by simp only [List.getD_cons_succ, List.getD_cons_zero]; rfl) _ (by rfl) (fun W hW => by have hc := hW.cell (show w5.drew.cell? ⟨b1, 1, none⟩ = some (.int .i64 xp) from HF.out.2.1) id; clear hW; go_simp; with_reducible rfl) ?_
            simp only [Act.put, List.setIfInBounds_toArray, List.set_cons_zero, List.set_cons_succ]
            refine pl_rd (by simp only [List.getD_cons_succ, List.getD_cons_zero]; rfl) _ (by rfl) (fun W hW => by have hc := hW.cell (show w5.drew.cell? ⟨b1, 1, none⟩ = some (.int .i64 xp) from HF.out.2.1) id; clear hW; go_simp; with_reducible rfl) ?_
            simp only [Act.put, List.setIfInBounds_toArray, List.set_cons_zero, List.set_cons_succ]
            refine pl_rd (by simp only [List.getD_cons_succ, List.getD_cons_zero]; rfl) _ (by rfl) (fun W hW => by have hc := hW.cell (show w5.drew.cell? ⟨b1, 1, none⟩ = some (.int .i64 xp) from HF.out.2.1) id; clear hW; go_simp; with_reducible rfl) ?_
            simp only [Act.put, List.setIfInBounds_toArray, List.set_cons_zero, List.set_cons_succ]
            refine pl_grow (by simp only [List.getD_cons_succ, List.getD_cons_zero]; rfl) ?_
            go_wp2_with (go_at_call 21; ((with_reducible refine (inst_any w5.drew (HH5.out.m.new (Kept.refl _ _).drew) xp).mono ?_); rintro e w6 ⟨rfl, rfl⟩))
            refine GPost.mk (Kept.refl _ _) ?_
            repeat ((first | refine pl_pur (by simp only [List.getD_cons_succ, List.getD_cons_zero]; rfl) _ (by rfl) (fun W => by go_simp; with_reducible rfl) ?_ | refine pl_rd (by simp only [List.getD_cons_succ, List.getD_cons_zero]; rfl) _ (by rfl) (fun W hW => by have hc := kcell hW; clear hW; go_simp; with_reducible rfl) ?_); simp only [Act.put, List.setIfInBounds_toArray, List.set_cons_zero, List.set_cons_succ])
            refine pl_grow (by simp only [List.getD_cons_succ, List.getD_cons_zero]; rfl) ?_
            go_wp2_with (go_at_call 22; ((with_reducible refine (done_any w5.drew (HH5.out.m.new (Kept.refl _ _).drew) xp).mono ?_); rintro e w6 ⟨v13, rfl, hs13, hk6⟩))
            refine GPost.mk hk6 ?_
            have H6 : Hid (Kept No w5 w6 ∧ Sl (kI .u64) w6 (fun k => k ≠ rb) v13 (doneOf R xp)) := ⟨((Kept.refl No w5).drew).trans hk6, hs13.mono fun k hk _ => by have := hk.1; have : w5.heap.size ≤ k := hk.1; omega⟩
            clear hk6 hs13
            repeat ((first | refine pl_pur (by simp only [List.getD_cons_succ, List.getD_cons_zero]; rfl) _ (by rfl) (fun W => by go_simp; with_reducible rfl) ?_ | refine pl_rd (by simp only [List.getD_cons_succ, List.getD_cons_zero]; rfl) _ (by rfl) (fun W hW => by have hc := kcell hW; clear hW; go_simp; with_reducible rfl) ?_); simp only [Act.put, List.setIfInBounds_toArray, List.set_cons_zero, List.set_cons_succ])
            refine pl_grow (by simp only [List.getD_cons_succ, List.getD_cons_zero]; rfl) ?_
            go_wp2_with (go_at_call 23; ((with_reducible refine (held_any w6 (HH5.out.m.new H6.out.1) xp).mono ?_); rintro e w7 ⟨v14, rfl, hs14, hk7⟩))
            refine GPost.mk hk7 ?_
            have H7 : Hid (Kept No w5 w7 ∧ Kept No w6 w7 ∧ Sl (kI .u64) w7 (fun k => k ≠ rb) v14 (heldOf R xp)) := ⟨H6.out.1.trans hk7, hk7, hs14.mono fun k hk _ => by have := hk.1; have : w5.heap.size ≤ w6.heap.size := H6.out.1.size; omega⟩
            clear hk7 hs14
            obtain ⟨A13, n13, c13, e13⟩ : ∃ A n c, v13 = .slice A n c := by obtain ⟨A, c, h, _⟩ := H6.out.2.slice; exact ⟨A, _, c, h⟩
            obtain ⟨A14, n14, c14, e14⟩ : ∃ A n c, v14 = .slice A n c := by obtain ⟨A, c, h, _⟩ := H7.out.2.2.slice; exact ⟨A, _, c, h⟩
            subst e13 e14
            repeat ((first | refine pl_pur (by simp only [List.getD_cons_succ, List.getD_cons_zero]; rfl) _ (by rfl) (fun W => by go_simp; with_reducible rfl) ?_ | refine pl_rd (by simp only [List.getD_cons_succ, List.getD_cons_zero]; rfl) _ (by rfl) (fun W hW => by have hc := kcell hW; clear hW; go_simp; with_reducible rfl) ?_); simp only [Act.put, List.setIfInBounds_toArray, List.set_cons_zero, List.set_cons_succ])
            refine pl_fin ?_
            obtain ⟨I0, hI0⟩ : ∃ I, I = instOf R xp := ⟨_, rfl⟩
            rw [← hI0]
            have HI : Hid (I0 = instOf R xp) := hI0
            clear hI0
            have f0 := H7.out.1.cell HF.out.1 id
            have f1 := H7.out.1.cell HF.out.2.1 id
            have f2 := H7.out.1.cell HF.out.2.2.1 id
            have f3 := H7.out.1.cell HF.out.2.2.2.1 id
            have f4 := H7.out.1.cell HF.out.2.2.2.2 id
            have hr7 : rb < w7.heap.size := Nat.lt_of_lt_of_le hr5 H7.out.1.size
            have hb17 : b1 < w7.heap.size := Nat.lt_of_lt_of_le hb15 H7.out.1.size
            -- what is so behind the act, in whatever world
            have HB : Hid (∀ w8 G', One w w8 b rb N R' G' → Kept (fun k => k = rb) w7 w8 → 
                One w w8 b rb N R' G' ∧ Sl (kI .u64) w8 (fun k => k ≠ rb) (.slice A7 S0.length c7) S0 ∧ Sl (kI .u64) w8 (fun k => k ≠ rb) (.slice A8 T0.length c8) T0 ∧ Sl (kI .u64) w8 (fun k => k ≠ rb) (.slice A13 n13 c13) (doneOf R xp) ∧ Sl (kI .u64) w8 (fun k => k ≠ rb) (.slice A14 n14 c14) (heldOf R xp) ∧ (∀ W, Kept No w8 W → W.cell? ⟨b1, 1, none⟩ = some (.int .i64 xp))) := by
              intro w8 G' h8 hk8
              have hk57 : Kept No wr w7 := HK5'.out.trans H7.out.1
              exact ⟨h8, (HQ.out.2.2.2.2.1.new hk57).kept hk8 (fun k hk _ => hk), (HQ.out.2.2.2.2.2.new hk57).kept hk8 (fun k hk _ => hk), (H6.out.2.new H7.out.2.1).kept hk8 (fun k hk _ => hk), H7.out.2.2.kept hk8 (fun k hk _ => hk), fun W hW => hW.cell (hk8.cell (H7.out.1.cell HF.out.2.1 id) (fun e => by have e : b1 = rb := e; omega)) id⟩
            cases xg with
            | false =>
              have hl' : leftN R' = q := by rw [HQ.out.1, HT.out.2.2.2.2.2]; exact leftN_tell _ _ _ _ _
              have HL' : Hid (leftN R' = q) := hl'
              clear hl'
              have hcs : 1 ≤ leftN R' → coversM (stableM N R') S0 = true ∧ coversM (mostM R') T0 = true ∧ M0 ≤ leastM R' := fun h => by
                rw [HQ.out.2.1, HQ.out.2.2.1, HQ.out.2.2.2.1]
                exact ⟨HT.out.2.2.1.stable HT.out.2.2.2.1 (left_ne h), HT.out.2.2.1.most HT.out.2.2.2.1 HT.out.2.2.2.2.1, HT.out.2.2.1.least (left_ne h)⟩
              have HCS : Hid (coversM (stableM N R') S0 = true ∧ coversM (mostM R') T0 = true ∧ M0 ≤ leastM R') := hcs (by rw [HL'.out]; exact hl1)
              clear hcs
              go_wp2_with (first
                | (go_at_call 16; ((with_reducible refine (one_tell w7 (HH5.out.new H7.out.1) xp xi _ _ xd xh HS.out.2.1 HS.out.2.2.1 HS.out.2.2.2 hxl.1 hxl.2).mono ?_); rintro e w8 ⟨rfl, ⟨G8, h8⟩, hk8⟩; have h8 : One w w8 b rb N R' G8 := (by rw [HT.out.2.2.2.2.2]; exact h8); have H8 := HB.out _ _ h8 hk8; have H8 : Hid _ := H8; have hr8 : rb < w8.heap.size := H8.out.1.m.lt.2; have f1 := H8.out.2.2.2.2.2 _ (Kept.refl _ _); have hb18 := World.block_lt_of_cell? w8 _ f1; clear f0 f2 f3 f4; clear h8 hk8 HB))
                | (go_at_call 18; ((with_reducible refine (stable_any w8 H8.out.1.m).mono ?_); rintro e w9 ⟨v15, rfl, hs9, hk9⟩; have H9 : Hid (Kept No w8 w9 ∧ Sl (kI .u64) w9 (fun k => k ≠ rb) v15 (stableM N R')) := ⟨hk9, hs9.mono fun k hk _ => by have := hk.1; omega⟩; clear hk9 hs9))
                | (go_at_call 20; ((with_reducible refine (most_any w9 (H8.out.1.m.new H9.out.1)).mono ?_); rintro e w10 ⟨v16, rfl, hs10, hk10⟩; have H10 : Hid (Kept No w8 w10 ∧ Sl (kI .u64) w10 (fun k => k ≠ rb) v16 (mostM R') ∧ Kept No w9 w10) := ⟨H9.out.1.trans hk10, hs10.mono (fun k hk _ => by have := hk.1; have := H9.out.1.size; omega), hk10⟩; have f1 := H8.out.2.2.2.2.2 _ H10.out.1; have hb110 := World.block_lt_of_cell? w10 _ f1; clear hk10 hs10; obtain ⟨A15, n15, c15, e15⟩ : ∃ A n c, v15 = .slice A n c := (by obtain ⟨A, c, h, _⟩ := H9.out.2.slice; exact ⟨A, _, c, h⟩); obtain ⟨A16, n16, c16, e16⟩ : ∃ A n c, v16 = .slice A n c := (by obtain ⟨A, c, h, _⟩ := H10.out.2.1.slice; exact ⟨A, _, c, h⟩); subst e15 e16; have HW : Hid (∀ W, Kept No w10 W → MatAt W b rb N R' G8 ∧ Sl (kI .u64) W (fun k => k ≠ rb) (.slice A15 n15 c15) (stableM N R') ∧ Sl (kI .u64) W (fun k => k ≠ rb) (.slice A16 n16 c16) (mostM R') ∧ Sl (kI .u64) W (fun k => k ≠ rb) (.slice A7 S0.length c7) S0 ∧ Sl (kI .u64) W (fun k => k ≠ rb) (.slice A8 T0.length c8) T0 ∧ Sl (kI .u64) W (fun k => k ≠ rb) (.slice A13 n13 c13) (doneOf R xp) ∧ Sl (kI .u64) W (fun k => k ≠ rb) (.slice A14 n14 c14) (heldOf R xp) ∧ W.cell? ⟨b1, 1, none⟩ = some (.int .i64 xp) ∧ One w W b rb N R' G8) := (fun W hW => ⟨H8.out.1.m.new (H10.out.1.trans hW), (H9.out.2.new H10.out.2.2).new hW, H10.out.2.1.new hW, H8.out.2.1.new (H10.out.1.trans hW), H8.out.2.2.1.new (H10.out.1.trans hW), H8.out.2.2.2.1.new (H10.out.1.trans hW), H8.out.2.2.2.2.1.new (H10.out.1.trans hW), H8.out.2.2.2.2.2 W (H10.out.1.trans hW), H8.out.1.new (H10.out.1.trans hW)⟩)))
                | (go_at_call 21; ((with_reducible refine (inst_any w10 (HW.out _ (Kept.refl _ _)).1 xp).mono ?_); rintro e w11 ⟨rfl, rfl⟩; obtain ⟨I1, hI1⟩ : ∃ I, I = instOf R' xp := ⟨_, rfl⟩; rw [← hI1]; have hI : ¬ I1 < I0 := (by rw [hI1, HI.out]; have := HT.out.2.2.1.inst xp; omega); clear hI1))
                | (go_at_call 22; ((with_reducible refine (done_any w10 (HW.out _ (Kept.refl _ _)).1 xp).mono ?_); rintro e w11 ⟨v22, rfl, hs11, hk11⟩; have H11 : Hid (Kept No w10 w11 ∧ Sl (kI .u64) w11 (fun k => k ≠ rb) v22 (doneOf R' xp)) := ⟨hk11, hs11.mono (fun k hk _ => by have := hk.1; have := H10.out.1.size; omega)⟩; have f1 := (HW.out _ H11.out.1).2.2.2.2.2.2.2.1; have hb111 := World.block_lt_of_cell? w11 _ f1; clear hk11 hs11))
                | (go_at_call 25; first
                  | ((with_reducible refine (covers_any v22 (.slice A13 n13 c13) _ _ w11 _ H11.out.2 (HW.out _ H11.out.1).2.2.2.2.2.1).mono ?_); rw [HT.out.2.2.1.done xp]; rintro e w12 ⟨rfl, hk12⟩; have H12 : Hid (Kept No w10 w12) := H11.out.1.trans hk12; have f1 := (HW.out _ H12.out).2.2.2.2.2.2.2.1; have hb112 := World.block_lt_of_cell? w12 _ f1; clear hk12)
                  | ((with_reducible refine (covers_any v23 (.slice A14 n14 c14) _ _ w13 _ H13.out.2 (HW.out _ H13.out.1).2.2.2.2.2.2.1).mono ?_); rw [HT.out.2.2.1.held xp]; rintro e w14 ⟨rfl, hk14⟩; have H14 : Hid (Kept No w10 w14) := H13.out.1.trans hk14; clear hk14)
                  | ((with_reducible refine (covers_any (.slice A15 n15 c15) (.slice A7 S0.length c7) _ _ w14 _ (HW.out _ H14.out).2.1 (HW.out _ H14.out).2.2.2.1).mono ?_); rw [HCS.out.1]; rintro e w15 ⟨rfl, hk15⟩; have H15 : Hid (Kept No w10 w15) := H14.out.trans hk15; clear hk15)
                  | ((with_reducible refine (covers_any (.slice A16 n16 c16) (.slice A8 T0.length c8) _ _ w15 _ (HW.out _ H15.out).2.2.1 (HW.out _ H15.out).2.2.2.2.1).mono ?_); rw [HCS.out.2.1]; rintro e w16 ⟨rfl, hk16⟩; have H16 : Hid (Kept No w10 w16) := H15.out.trans hk16; clear hk16))
                | (go_at_call 23; ((with_reducible refine (held_any w12 (HW.out _ H12.out).1 xp).mono ?_); rintro e w13 ⟨v23, rfl, hs13', hk13⟩; have H13 : Hid (Kept No w10 w13 ∧ Sl (kI .u64) w13 (fun k => k ≠ rb) v23 (heldOf R' xp)) := ⟨H12.out.trans hk13, hs13'.mono (fun k hk _ => by have := hk.1; have := H10.out.1.size; have := H12.out.size; omega)⟩; clear hk13 hs13'))
                | (go_at_call 19; first
                  | ((with_reducible refine (least_any w16 (HW.out _ H16.out).1).mono ?_); rintro e w17 ⟨rfl, hk17⟩; have H17 : Hid (Kept No w10 w17) := H16.out.trans hk17; clear hk17; obtain ⟨M1, hM1⟩ : ∃ M, M = leastM R' := ⟨_, rfl⟩; rw [← hM1]; have HM1 : Hid (M1 = leastM R') := hM1; have hMM : ¬ M1 < M0 := (by rw [hM1]; have := HCS.out.2.2; omega); clear hM1)
                  | ((with_reducible refine (least_any w17 (HW.out _ H17.out).1).mono ?_); rintro e w18 ⟨rfl, hk18⟩; have H18 : Hid (Kept No w10 w18) := H17.out.trans hk18; clear hk18)))
              go_roundw
              case rel => exact ⟨k + 1, by omega, by go_num, R', G8, HT.out.2.1.symm, (HW.out _ H18.out).2.2.2.2.2.2.2.2, by rw [HL'.out]; exact hl1, by rw [HL'.out], (HW.out _ H18.out).2.1, (HW.out _ H18.out).2.2.1, rfl⟩
              case measure => simp [intOf]; omega
            | true =>
              have hgl := leftN_gone R xp
              rw [show gone1 R xp = R' from HT.out.2.2.2.2.2.symm] at hgl
              obtain ⟨g, hg⟩ : ∃ g, g = gone1n R xp := ⟨_, rfl⟩
              rw [← hg, ← HQ.out.1] at hgl
              have HG : Hid (g = gone1n R xp) := hg
              have HL' : Hid ((q : Int) - g = leftN R') := hgl.1
              have hg01 := hgl.2
              clear hg hgl
              have hcs : 1 ≤ leftN R' → coversM (stableM N R') S0 = true ∧ coversM (mostM R') T0 = true ∧ M0 ≤ leastM R' := fun h => by
                rw [HQ.out.2.1, HQ.out.2.2.1, HQ.out.2.2.2.1]
                exact ⟨HT.out.2.2.1.stable HT.out.2.2.2.1 (left_ne h), HT.out.2.2.1.most HT.out.2.2.2.1 HT.out.2.2.2.2.1, HT.out.2.2.1.least (left_ne h)⟩
              by_cases hz : (q : Int) - g < 1
              · have hz0 : (q : Int) - g = 0 := by omega
                have hn0 : leftN R' = 0 := by have := HL'.out; omega
                have HN0 : Hid (leftN R' = 0) := hn0
                clear hcs hn0
                go_wp2_with (first
                | (go_at_call 15; ((with_reducible refine (one_gone (w7.alloc (.cells #[.int .i64 xp] 3)) ((HH5.out.new H7.out.1).new ((Kept.refl _ _).alloc _)) xp (by simp) HS.out.1 (by omega)).mono ?_); rintro e w8 ⟨rfl, h8, hk8⟩; rw [← HG.out]; have h8 : One w w8 b rb N R' G := (by rw [HT.out.2.2.2.2.2]; exact h8); have hk8 : Kept (fun k => k = rb) w7 w8 := ((Kept.refl _ w7).alloc _).trans hk8; have H8 := HB.out _ _ h8 hk8; have H8 : Hid _ := H8; have hr8 : rb < w8.heap.size := H8.out.1.m.lt.2; have f1 := H8.out.2.2.2.2.2 _ (Kept.refl _ _); have hb18 := World.block_lt_of_cell? w8 _ f1; clear f0 f2 f3 f4; clear h8 hk8 HB))
                | (go_at_call 19; ((with_reducible refine (least_any w8 H8.out.1.m).mono ?_); rw [least_none HN0.out]; rintro e w9 ⟨rfl, hk9⟩; have H9 : Hid (Kept No w8 w9) := hk9; clear hk9))
                | (go_at_call 18; ((with_reducible refine (stable_any w9 (H8.out.1.m.new H9.out)).mono ?_); rintro e w10 ⟨v15, rfl, hs10, hk10⟩; have H10 : Hid (Kept No w8 w10 ∧ Sl (kI .u64) w10 (fun _ => True) v15 (stableM N R')) := ⟨H9.out.trans hk10, hs10.mono fun _ _ _ => trivial⟩; clear hk10 hs10))
                | (go_at_call 24; go_loud ((with_reducible refine (same04_any v15 _ _ [] _ (fun _ => True) (H10.out.2.new ((Kept.refl _ _).alloc _)) (sl_empty (Nat.zero_le _))).mono ?_); rw [stable_none HN0.out]; rintro e w11 ⟨rfl, hk11⟩; have H11 : Hid (Kept No w8 w11) := (H10.out.1.alloc _).trans hk11; clear hk11))
                | (go_at_call 12; ((with_reducible refine (HA _).mono ?_); rintro e w12 ⟨rfl, hk12⟩)))
                go_ret
                exact ⟨rfl, (H8.out.1.k.trans H11.out).trans hk12⟩
              · have HCS : Hid (coversM (stableM N R') S0 = true ∧ coversM (mostM R') T0 = true ∧ M0 ≤ leastM R') := hcs (by have := HL'.out; omega)
                clear hcs
                go_wp2_with (first
                | (go_at_call 15; ((with_reducible refine (one_gone (w7.alloc (.cells #[.int .i64 xp] 3)) ((HH5.out.new H7.out.1).new ((Kept.refl _ _).alloc _)) xp (by simp) HS.out.1 (by omega)).mono ?_); rintro e w8 ⟨rfl, h8, hk8⟩; rw [← HG.out]; have h8 : One w w8 b rb N R' G := (by rw [HT.out.2.2.2.2.2]; exact h8); have hk8 : Kept (fun k => k = rb) w7 w8 := ((Kept.refl _ w7).alloc _).trans hk8; have H8 := HB.out _ _ h8 hk8; have H8 : Hid _ := H8; have hr8 : rb < w8.heap.size := H8.out.1.m.lt.2; have f1 := H8.out.2.2.2.2.2 _ (Kept.refl _ _); have hb18 := World.block_lt_of_cell? w8 _ f1; clear f0 f2 f3 f4; clear h8 hk8 HB))
                | (go_at_call 18; ((with_reducible refine (stable_any w8 H8.out.1.m).mono ?_); rintro e w9 ⟨v15, rfl, hs9, hk9⟩; have H9 : Hid (Kept No w8 w9 ∧ Sl (kI .u64) w9 (fun k => k ≠ rb) v15 (stableM N R')) := ⟨hk9, hs9.mono fun k hk _ => by have := hk.1; omega⟩; clear hk9 hs9))
                | (go_at_call 20; ((with_reducible refine (most_any w9 (H8.out.1.m.new H9.out.1)).mono ?_); rintro e w10 ⟨v16, rfl, hs10, hk10⟩; have H10 : Hid (Kept No w8 w10 ∧ Sl (kI .u64) w10 (fun k => k ≠ rb) v16 (mostM R') ∧ Kept No w9 w10) := ⟨H9.out.1.trans hk10, hs10.mono (fun k hk _ => by have := hk.1; have := H9.out.1.size; omega), hk10⟩; have f1 := H8.out.2.2.2.2.2 _ H10.out.1; have hb110 := World.block_lt_of_cell? w10 _ f1; clear hk10 hs10; obtain ⟨A15, n15, c15, e15⟩ : ∃ A n c, v15 = .slice A n c := (by obtain ⟨A, c, h, _⟩ := H9.out.2.slice; exact ⟨A, _, c, h⟩); obtain ⟨A16, n16, c16, e16⟩ : ∃ A n c, v16 = .slice A n c := (by obtain ⟨A, c, h, _⟩ := H10.out.2.1.slice; exact ⟨A, _, c, h⟩); subst e15 e16; have HW : Hid (∀ W, Kept No w10 W → MatAt W b rb N R' G ∧ Sl (kI .u64) W (fun k => k ≠ rb) (.slice A15 n15 c15) (stableM N R') ∧ Sl (kI .u64) W (fun k => k ≠ rb) (.slice A16 n16 c16) (mostM R') ∧ Sl (kI .u64) W (fun k => k ≠ rb) (.slice A7 S0.length c7) S0 ∧ Sl (kI .u64) W (fun k => k ≠ rb) (.slice A8 T0.length c8) T0 ∧ Sl (kI .u64) W (fun k => k ≠ rb) (.slice A13 n13 c13) (doneOf R xp) ∧ Sl (kI .u64) W (fun k => k ≠ rb) (.slice A14 n14 c14) (heldOf R xp) ∧ W.cell? ⟨b1, 1, none⟩ = some (.int .i64 xp) ∧ One w W b rb N R' G) := (fun W hW => ⟨H8.out.1.m.new (H10.out.1.trans hW), (H9.out.2.new H10.out.2.2).new hW, H10.out.2.1.new hW, H8.out.2.1.new (H10.out.1.trans hW), H8.out.2.2.1.new (H10.out.1.trans hW), H8.out.2.2.2.1.new (H10.out.1.trans hW), H8.out.2.2.2.2.1.new (H10.out.1.trans hW), H8.out.2.2.2.2.2 W (H10.out.1.trans hW), H8.out.1.new (H10.out.1.trans hW)⟩)))
                | (go_at_call 21; ((with_reducible refine (inst_any w10 (HW.out _ (Kept.refl _ _)).1 xp).mono ?_); rintro e w11 ⟨rfl, rfl⟩; obtain ⟨I1, hI1⟩ : ∃ I, I = instOf R' xp := ⟨_, rfl⟩; rw [← hI1]; have hI : ¬ I1 < I0 := (by rw [hI1, HI.out]; have := HT.out.2.2.1.inst xp; omega); clear hI1))
                | (go_at_call 22; ((with_reducible refine (done_any w10 (HW.out _ (Kept.refl _ _)).1 xp).mono ?_); rintro e w11 ⟨v22, rfl, hs11, hk11⟩; have H11 : Hid (Kept No w10 w11 ∧ Sl (kI .u64) w11 (fun k => k ≠ rb) v22 (doneOf R' xp)) := ⟨hk11, hs11.mono (fun k hk _ => by have := hk.1; have := H10.out.1.size; omega)⟩; have f1 := (HW.out _ H11.out.1).2.2.2.2.2.2.2.1; have hb111 := World.block_lt_of_cell? w11 _ f1; clear hk11 hs11))
                | (go_at_call 25; first
                  | ((with_reducible refine (covers_any v22 (.slice A13 n13 c13) _ _ w11 _ H11.out.2 (HW.out _ H11.out.1).2.2.2.2.2.1).mono ?_); rw [HT.out.2.2.1.done xp]; rintro e w12 ⟨rfl, hk12⟩; have H12 : Hid (Kept No w10 w12) := H11.out.1.trans hk12; have f1 := (HW.out _ H12.out).2.2.2.2.2.2.2.1; have hb112 := World.block_lt_of_cell? w12 _ f1; clear hk12)
                  | ((with_reducible refine (covers_any v23 (.slice A14 n14 c14) _ _ w13 _ H13.out.2 (HW.out _ H13.out.1).2.2.2.2.2.2.1).mono ?_); rw [HT.out.2.2.1.held xp]; rintro e w14 ⟨rfl, hk14⟩; have H14 : Hid (Kept No w10 w14) := H13.out.1.trans hk14; clear hk14)
                  | ((with_reducible refine (covers_any (.slice A15 n15 c15) (.slice A7 S0.length c7) _ _ w14 _ (HW.out _ H14.out).2.1 (HW.out _ H14.out).2.2.2.1).mono ?_); rw [HCS.out.1]; rintro e w15 ⟨rfl, hk15⟩; have H15 : Hid (Kept No w10 w15) := H14.out.trans hk15; clear hk15)
                  | ((with_reducible refine (covers_any (.slice A16 n16 c16) (.slice A8 T0.length c8) _ _ w15 _ (HW.out _ H15.out).2.2.1 (HW.out _ H15.out).2.2.2.2.1).mono ?_); rw [HCS.out.2.1]; rintro e w16 ⟨rfl, hk16⟩; have H16 : Hid (Kept No w10 w16) := H15.out.trans hk16; clear hk16))
                | (go_at_call 23; ((with_reducible refine (held_any w12 (HW.out _ H12.out).1 xp).mono ?_); rintro e w13 ⟨v23, rfl, hs13', hk13⟩; have H13 : Hid (Kept No w10 w13 ∧ Sl (kI .u64) w13 (fun k => k ≠ rb) v23 (heldOf R' xp)) := ⟨H12.out.trans hk13, hs13'.mono (fun k hk _ => by have := hk.1; have := H10.out.1.size; have := H12.out.size; omega)⟩; clear hk13 hs13'))
                | (go_at_call 19; first
                  | ((with_reducible refine (least_any w16 (HW.out _ H16.out).1).mono ?_); rintro e w17 ⟨rfl, hk17⟩; have H17 : Hid (Kept No w10 w17) := H16.out.trans hk17; clear hk17; obtain ⟨M1, hM1⟩ : ∃ M, M = leastM R' := ⟨_, rfl⟩; rw [← hM1]; have HM1 : Hid (M1 = leastM R') := hM1; have hMM : ¬ M1 < M0 := (by rw [hM1]; have := HCS.out.2.2; omega); clear hM1)
                  | ((with_reducible refine (least_any w17 (HW.out _ H17.out).1).mono ?_); rintro e w18 ⟨rfl, hk18⟩; have H18 : Hid (Kept No w10 w18) := H17.out.trans hk18; clear hk18)))
                go_roundw
                case rel => exact ⟨k + 1, by omega, by go_num, R', G, HT.out.2.1.symm, (HW.out _ H18.out).2.2.2.2.2.2.2.2, by have := HL'.out; omega, by rw [HL'.out], (HW.out _ H18.out).2.1, (HW.out _ H18.out).2.2.1, rfl⟩
                case measure => simp [intOf]; omega
        · go_wp2_with (go_at_call 12; ((with_reducible refine (HA _).mono ?_); rintro e w6 ⟨rfl, hk6⟩))
          go_ret
          exact ⟨rfl, hone.k.trans hk6⟩
end Go.Proofs.Ytfnecdkfhackkaa
