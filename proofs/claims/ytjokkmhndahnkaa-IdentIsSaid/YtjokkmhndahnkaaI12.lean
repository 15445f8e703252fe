/- The package ident, twelfth part: Join. -/
import Derived.Test.YtjokkmhndahnkaaI11
set_option linter.unusedVariables false
set_option linter.unusedSimpArgs false
namespace Go.Proofs.Ytjokkmhndahnkaa
open Go.RowKit

theorem TW.idNo {G : Nat → Prop} {w : World} {v : Value} {xs : List PID} (h : TW kID 33 w G v xs) : TW kID 33 w No v xs := by
  obtain ⟨cs, h1, h2, _⟩ := h
  exact ⟨cs, h1, h2, fun _ _ h => h⟩
theorem pred_may (a b : Int) (w : World) (h : okID (a, b)) : Calls Try.prog 29 #[.agg #[.int .u8 a, .int .u64 b]] w fun e w' => e = .returned (.bool (!may64 (a, b))) ∧ Kept No w w' := by
  have h0 := okID_iff.1 h
  simp only at h0
  have hm := fun W => may_op a b 64 W h0.1 h0.2.1
  rw [show mayP 64 (a, b) = may64 (a, b) from rfl] at hm
  generalize may64 (a, b) = m at hm ⊢
  clear h h0
  go_enter Try.func29, Try.ntmps29
  go_wp2_with (go_at_call 17; ((with_reducible refine (hm _).mono ?_); rintro e w1 ⟨rfl, hk⟩))
  go_ret
  exact ⟨rfl, ((Kept.refl _ _).alloc _).trans hk⟩

theorem tw_runs {w : World} {g off n c : Nat} {ys : List PRun} (h : TW kRun 40 w No (.slice (some ⟨g, off, none⟩) n c) ys) {j : Nat} {x : PRun} (hx : ys[j]? = some x) :
    okRun x ∧ ∀ i u, [Value.int .u8 x.1, .int .u64 x.2.1, .int .u64 x.2.2][i]? = some u → w.cell? ⟨g, off + j * 3 + i, none⟩ = some u := by
  obtain ⟨b, o, cs, e, ⟨rfl, hr⟩, hc⟩ := h.get hx
  simp only [Option.some.injEq, Addr.mk.injEq] at e
  obtain ⟨rfl, rfl, _⟩ := e
  exact ⟨hr, hc⟩
theorem TW.of_cells3 {w : World} {g off n c : Nat} {cur : Array Value} {ys : List PRun} (hg : w.heap[g]? = some (.cells cur 40 (0, 0))) (hn : ys.length = n) (hc : n ≤ c) (hm : c ≤ maxLen) (hs : off + c * 3 ≤ cur.size)
    (hy : ∀ (j : Nat) y, ys[j]? = some y → okRun y ∧ ∀ i u, [Value.int .u8 y.1, .int .u64 y.2.1, .int .u64 y.2.2][i]? = some u → w.cell? ⟨g, off + j * 3 + i, none⟩ = some u) : TW kRun 40 w No (.slice (some ⟨g, off, none⟩) n c) ys := by
  have hsz : kRun.sz = 3 := rfl
  have hl : ((cur.toList.drop off).take (n * 3)).length = n * 3 := by
    rw [List.length_take, List.length_drop, Array.length_toList]
    have := Nat.mul_le_mul_right 3 hc
    omega
  refine ⟨(cur.toList.drop off).take (n * 3), ⟨by rw [hn, hsz]; exact hl, .inr ⟨g, off, c, cur, by rw [hn], hg, by omega, hm, by rw [hsz]; exact hs, by rw [hn, hsz]⟩⟩, ⟨by rw [hn, hsz]; exact hl, fun j p hp => ?_⟩, fun _ _ h => h⟩
  obtain ⟨hok, hcell⟩ := hy j p hp
  have hj := (List.getElem?_eq_some_iff.1 hp).1
  refine ⟨?_, hok⟩
  have h0 := hcell 0 _ rfl
  have h1 := hcell 1 _ rfl
  have h2 := hcell 2 _ rfl
  rw [cell_of_row w _ _ _ _ _ hg] at h0 h1 h2
  rw [hsz]
  apply List.ext_getElem?
  intro i
  rw [List.getElem?_take, List.getElem?_drop, List.getElem?_take, List.getElem?_drop, Array.getElem?_toList]
  match i with
  | 0 => rw [if_pos (by omega), if_pos (by omega), Nat.add_zero]; exact h0
  | 1 => rw [if_pos (by omega), if_pos (by omega), ← Nat.add_assoc]; exact h1
  | 2 => rw [if_pos (by omega), if_pos (by omega), ← Nat.add_assoc]; exact h2
  | i + 3 => rw [if_neg (by omega)]; rfl
theorem tw_count {w : World} {g off n c : Nat} {ys : List PRun} (h : TW kRun 40 w No (.slice (some ⟨g, off, none⟩) n c) ys) (hn : ys.length = n) {j : Nat} {a b k : Int} (hx : ys[j]? = some (a, b, k)) (k' : Int) (hk : InR .u64 k') :
    TW kRun 40 (w.setCell ⟨g, off + j * 3 + 2, none⟩ (.int .u64 k')) No (.slice (some ⟨g, off, none⟩) n c) (ys.set j (a, b, k')) ∧ w.frozen? ⟨g, off + j * 3 + 2, none⟩ = false := by
  have hh := h
  obtain ⟨cs, h1, _⟩ := hh
  rcases h1.2 with ⟨h0, _⟩ | ⟨g', off', cap, cur, hv, hg, hc1, hc2, hc3, _⟩
  · cases h0
  · simp only [Value.slice.injEq, Option.some.injEq, Addr.mk.injEq] at hv
    obtain ⟨⟨rfl, rfl, _⟩, _, rfl⟩ := hv
    have hsz : kRun.sz = 3 := rfl
    rw [hsz] at hc3
    rw [hn] at hc1
    refine ⟨TW.of_cells3 (heap_setCell_same w g (off + j * 3 + 2) cur 40 (.int .u64 k') hg) (by rw [List.length_set]; exact hn) hc1 hc2 (by simpa using hc3) (fun i y hy => ?_), frozen_of_row w g _ _ _ hg⟩
    have hj := (List.getElem?_eq_some_iff.1 hx).1
    by_cases e : j = i
    · subst e
      have e2 : (a, b, k') = y := by simpa [hj] using hy
      subst e2
      obtain ⟨ho, hcell⟩ := tw_runs h hx
      refine ⟨⟨ho.1, ho.2.1, hk⟩, fun i u hu => ?_⟩
      match i with
      | 0 => exact (World.cell?_setCell_other _ _ _ _ (by simp)).trans (hcell 0 u hu)
      | 1 => exact (World.cell?_setCell_other _ _ _ _ (by simp)).trans (hcell 1 u hu)
      | 2 =>
        have : Value.int .u64 k' = u := by simpa using hu
        subst this
        exact World.cell?_setCell_same _ _ _ (hcell 2 _ rfl)
      | i + 3 => simp at hu
    · rw [List.getElem?_set_ne e] at hy
      obtain ⟨ho, hcell⟩ := tw_runs h hy
      refine ⟨ho, fun i' u hu => ?_⟩
      have hi : i' < 3 := by have := (List.getElem?_eq_some_iff.1 hu).1; simpa using this
      exact (World.cell?_setCell_other _ _ _ _ (by simp; try omega)).trans (hcell i' u hu)
theorem joinI_len : ∀ (l : List PID) (k : Nat), (joinI (l.take k)).length ≤ k
  | l, 0 => by simp [joinI]
  | l, k + 1 => by
    have ih := joinI_len l k
    cases h : l[k]? with
    | none =>
      have : l.take (k + 1) = l.take k := by rw [List.take_add_one, h]; simp
      rw [this]; omega
    | some a =>
      rw [joinI_snoc h]
      unfold joinStep
      cases hl : (joinI (l.take k)).getLast? with
      | none => simp; omega
      | some p =>
        simp only
        have hne : 0 < (joinI (l.take k)).length := by
          cases hz : joinI (l.take k) with
          | nil => rw [hz] at hl; simp at hl
          | cons => simp
        split
        · simp; omega
        · simp; omega
theorem src_new3 {w : World} {N : Nat} {e : TypeId} {a b c : Value} (hN : w.heap.size = N) (ha : a.oneCell' = true) (hb : b.oneCell' = true) (hc : c.oneCell' = true) : Src (w.alloc (.cells #[a, b, c] e)) (fun k => k = N) 3 (.slice (some ⟨N, 0, none⟩) 1 1) 1 [a, b, c] := by
  subst hN
  refine ⟨_, 1, rfl, Nat.le_refl _, by decide, rfl, fun u hu => ?_, fun _ => ⟨w.heap.size, 0, rfl, rfl, fun j u hj => ?_⟩⟩
  · simp at hu; rcases hu with rfl | rfl | rfl <;> assumption
  · match j with
    | 0 => have : a = u := by simpa using hj
           subst this; simp
    | 1 => have : b = u := by simpa using hj
           subst this; simp
    | 2 => have : c = u := by simpa using hj
           subst this; simp
    | j + 3 => simp at hj
theorem reps_run {w : World} {F : Nat → Prop} {p : PRun} (h : okRun p) : Reps (kRun.K w F) kRun.sz [p] [.int .u8 p.1, .int .u64 p.2.1, .int .u64 p.2.2] := Reps.single ⟨rfl, h⟩ rfl
theorem rinfo : (Try.prog.info? 40).map (fun i => (i.zero, i.size, i.bytes)) = some (some (.agg #[.int .u8 0, .int .u64 0, .int .u64 0]), 3, 24) := by kernel_rfl

/-- The loop of Join's body over ids in order. -/
theorem join_new {R : List PRun} {a : PID} (h : ∀ p, R.getLast? = some p → (p.1, p.2.1 + p.2.2) ≠ a) : joinStep R a = R ++ [(a.1, a.2, 1)] := joinStep_new R a h
theorem set_last {R : List PRun} {p q : PRun} : (R ++ [p]).set R.length q = R ++ [q] := by simp

theorem SortedOf.of_perm {l f ys : List PID} (hf : f = l.filter may64) (hp : ys.Perm f) (hs : ys.Pairwise fun a b => lessI b a = false) : SortedOf l (compactL ys) :=
  ⟨compactL_asc ys hs, fun a => by rw [compactL_mem, hp.mem_iff, hf, List.mem_filter]⟩

set_option maxRecDepth 20000 in
set_option maxHeartbeats 2000000 in
theorem join_op (v : Value) (xs : List PID) (w : World) (F : Nat → Prop) (hv : Sl kID w F v xs) (hF : ∀ k, F k → k < w.heap.size) (hlen : xs.length ≤ 1000) :
    Calls Try.prog 9 #[v] w fun e w' => ∃ v' s, e = .returned v' ∧ SortedOf xs s ∧ TW kRun 40 w' No v' (joinI s) ∧ Fresh w v' ∧ Kept No w w' := by
  have hC := clone_ids kID rfl v xs w F hv hF (by omega)
  have HP : Hid (∀ W p cs, kID.K W (fun _ => False) p cs → True) := fun _ _ _ _ => trivial
  clear hv hF
  go_enter Try.func9, Try.ntmps9
  go_wp2_with (first
    | (go_at_call 28; ((with_reducible refine hC.mono ?_); rintro e w1 ⟨v1, rfl, ht1, hf1, hk1⟩; have hD := deleteFunc_ids kID rfl (fun a => !may64 a) v1 xs w1 No ht1.idNo (fun _ h => h.elim) (show Hid _ from fun W x cs hk hK => by obtain ⟨rfl, hok⟩ := hK; exact pred_may x.1 x.2 W hok); simp only [Bool.not_not] at hD; have H1 : Hid (Fresh w v1 ∧ Kept No w w1) := ⟨hf1, hk1⟩; clear hC ht1 hf1 hk1))
    | (go_at_call 27; ((with_reducible refine hD.mono ?_); rintro e w2 ⟨v2, rfl, ht2, ho2, hk2⟩; have hS := sort_op v2 _ w2 ht2 (Nat.le_trans (List.length_filter_le _ _) hlen); have H2 : Hid (Fresh w v2 ∧ Kept No w w2 ∧ v2.ownBlock = v1.ownBlock) := ⟨fun k hk => H1.out.1 k (ho2 ▸ hk), H1.out.2.fresh hk2 H1.out.1, ho2⟩; clear hD ht2 ho2 hk2))
    | (go_at_call 30; ((with_reducible refine hS.mono ?_); rintro e w3 ⟨rfl, ys, hp, hsr, ht3, hk3⟩; have hCo := compact_op v2 ys w3 ht3; have H3 : Hid (Kept No w w3 ∧ ys.Perm (xs.filter may64) ∧ ys.Pairwise (fun a b => lessI b a = false)) := ⟨H2.out.2.1.fresh hk3 H2.out.1, hp, hsr⟩; clear hS hp hsr ht3 hk3))
    | (go_at_call 32; ((with_reducible refine hCo.mono ?_); rintro e w4 ⟨v4, rfl, ht4, ho4, hk4⟩; obtain ⟨A, c, rfl, hc1, hc2⟩ := ht4.slice; have H4 : Hid (Kept No w w4 ∧ TW kID 33 w4 No (.slice A (compactL ys).length c) (compactL ys) ∧ SortedOf xs (compactL ys)) := ⟨H3.out.1.fresh hk4 H2.out.1, ht4, SortedOf.of_perm rfl H3.out.2.1 H3.out.2.2⟩; clear hCo ht4 ho4 hk4)))
  have hl5 : (compactL ys).length ≤ 1000 := Nat.le_trans (H4.out.2.2.asc.len_le fun a ha => ((H4.out.2.2.mem a).1 ha).1) hlen
  obtain ⟨s, hs⟩ : ∃ s, s = compactL ys := ⟨_, rfl⟩
  rw [← hs] at H4 hc1 hl5 ⊢
  obtain ⟨n, hn⟩ : ∃ n, n = s.length := ⟨_, rfl⟩
  rw [← hn] at H4 hc1 hl5 ⊢
  simp only [maxLen] at hc2
  have H5 : Hid (n = s.length ∧ (∀ a ∈ s, may64 a = true)) := ⟨hn, fun a ha => ((H4.out.2.2.mem a).1 ha).2⟩
  clear hs hn hlen
  go_wp2
  go_loopw [4, 16] (fun o i wr => ∃ k : Nat, k ≤ n ∧ i = .int .i64 k ∧ TW kRun 40 wr No o (joinI (s.take k)) ∧ Fresh w4 o ∧ Kept No w4 wr) (fun _ i _ => n - (intOf i).toNat)
  case atStart => exact ⟨0, Nat.zero_le _, by first | rfl | trivial, TW.nil _ _ _ _, Fresh.nil _, Kept.refl _ _⟩
  case round =>
    obtain ⟨k, hk, rfl, htw, hfr, hke⟩ := hrel
    by_cases hlt : k < n
    · obtain ⟨a, ha⟩ : ∃ a, s[k]? = some a := ⟨_, List.getElem?_eq_getElem (by rw [← H5.out.1]; exact hlt)⟩
      obtain ⟨g, off, _, e, _, _⟩ := H4.out.2.1.get ha
      subst e
      obtain ⟨hok, hcell⟩ := tw_ids (H4.out.2.1.new hke) ha
      obtain ⟨a1, a2⟩ := a
      simp only at hcell
      have HC : Hid (∀ i u, [Value.int .u8 a1, .int .u64 a2][i]? = some u → wr.cell? ⟨g, off + k * 2 + i, none⟩ = some u) := hcell
      obtain ⟨R, hR⟩ : ∃ R, R = joinI (s.take k) := ⟨_, rfl⟩
      have hgood := (joinI_good s H4.out.2.2.asc H5.out.2 k (by rw [← H5.out.1]; exact hk)).2
      have hRl : R.length ≤ k := by rw [hR]; exact joinI_len s k
      rw [← hR] at htw hgood
      have hnext : joinI (s.take (k + 1)) = joinStep R (a1, a2) := by rw [joinI_snoc ha, hR]
      have HN : Hid (joinI (s.take (k + 1)) = joinStep R (a1, a2) ∧ rowsI R = true ∧ okID (a1, a2) ∧ Kept No w4 wr) := ⟨hnext, hgood, hok, hke⟩
      obtain ⟨B, d, rfl, hd1, hd2⟩ := htw.slice
      simp only [maxLen] at hd2
      obtain ⟨m, hm⟩ : ∃ m, m = R.length := ⟨_, rfl⟩
      rw [← hm] at hd1 hRl htw hfr ⊢
      have HT : Hid (TW kRun 40 wr No (.slice B m d) R ∧ Fresh w4 (.slice B m d) ∧ m = R.length) := ⟨htw, hfr, hm⟩
      have HQ : Hid (∀ w2, Kept No (wr.alloc (.cells #[.int .u8 a1, .int .u64 a2] 33)) w2 → w2.cell? ⟨wr.heap.size, 0, none⟩ = some (.int .u8 a1) ∧ w2.cell? ⟨wr.heap.size, 1, none⟩ = some (.int .u64 a2)) := fun w2 h2 => ⟨h2.cell (by simp) id, h2.cell (by simp) id⟩
      have hm1000 : m ≤ 1000 := by omega
      clear htw hfr hke hok hcell ha hnext hgood hR
      rcases Nat.eq_zero_or_pos m with hm0 | hmp
      · subst hm0
        have hR0 : R = [] := List.eq_nil_of_length_eq_zero hm.symm
        have HS : Hid (joinStep R (a1, a2) = R ++ [(a1, a2, 1)]) := by subst hR0; exact rfl
        clear hm hR0
        have hok1 : okRun (a1, a2, 1) := by have := okID_iff.1 HN.out.2.2.1; rw [okRun_iff]; simp only at this ⊢; omega
        have HO : Hid (okRun (a1, a2, 1)) := hok1
        clear hok1
        go_wp2_with (with_reducible refine wpList_load_whole rfl (.tmp 18) 33 rfl g (off + k * 2) rfl _ agg33 HC.out ?_)
        refine wp_region_plan No (.pur 0 (.pur 1 (.pur 2 (.pur 3 (.pur 4 (.pur 5 (.rd 6 (.rd 8 (.grow 7 (.pur 9 (.pur 10 .fin))))))))))) [] mixed (by kernel_rfl) ?_
        repeat ((first | refine pl_pur (by simp only [List.getD_cons_succ, List.getD_cons_zero]; rfl) _ (by rfl) (fun W => by go_simp; with_reducible rfl) ?_ | refine pl_rd (by simp only [List.getD_cons_succ, List.getD_cons_zero]; rfl) _ (by rfl) (fun W hW => by have hc := kcell hW; clear hW; go_simp; with_reducible rfl) ?_ | refine pl_skip (by simp only [List.getD_cons_succ, List.getD_cons_zero]; rfl) (by rfl) ?_ | refine pl_skip_rd (by simp only [List.getD_cons_succ, List.getD_cons_zero]; rfl) (by rfl) ?_ | refine pl_skip_grow (by simp only [List.getD_cons_succ, List.getD_cons_zero]; rfl) (by rfl) ?_ | refine pl_skip_act (by simp only [List.getD_cons_succ, List.getD_cons_zero]; rfl) (by rfl) ?_); simp only [Act.put, List.setIfInBounds_toArray, List.set_cons_zero, List.set_cons_succ])
        refine pl_fin ?_
        have hq := HQ.out _ ((Kept.refl _ _).drew)
        have q0 := hq.1
        have q1 := hq.2
        have HK : Hid (Kept No wr (wr.alloc (.cells #[.int .u8 a1, .int .u64 a2] 33)).drew) := ((Kept.refl _ _).alloc _).drew
        clear hq
        have ka : Kept No wr ((wr.alloc (.cells #[.int .u8 a1, .int .u64 a2] 33)).drew.alloc (.cells #[.int .u8 a1, .int .u64 a2, .int .u64 1] 40)) := HK.out.alloc _
        have hsr := src_new3 (w := (wr.alloc (.cells #[.int .u8 a1, .int .u64 a2] 33)).drew) (N := (wr.heap.size + 1)) (e := 40) (a := .int .u8 a1) (b := .int .u64 a2) (c := .int .u64 1) (by simp) rfl rfl rfl
        have HA : Hid (TW kRun 40 ((wr.alloc (.cells #[.int .u8 a1, .int .u64 a2] 33)).drew.alloc (.cells #[.int .u8 a1, .int .u64 a2, .int .u64 1] 40)) No (.slice B 0 d) R ∧ Src ((wr.alloc (.cells #[.int .u8 a1, .int .u64 a2] 33)).drew.alloc (.cells #[.int .u8 a1, .int .u64 a2, .int .u64 1] 40)) (fun k => k = (wr.heap.size + 1)) 3 (.slice (some ⟨(wr.heap.size + 1), 0, none⟩) 1 1) 1 [.int .u8 a1, .int .u64 a2, .int .u64 1] ∧ Kept No wr ((wr.alloc (.cells #[.int .u8 a1, .int .u64 a2] 33)).drew.alloc (.cells #[.int .u8 a1, .int .u64 a2, .int .u64 1] 40)) ∧ ((wr.alloc (.cells #[.int .u8 a1, .int .u64 a2] 33)).drew.alloc (.cells #[.int .u8 a1, .int .u64 a2, .int .u64 1] 40)).heap.size = (wr.heap.size + 1) + 1) := ⟨HT.out.1.new ka, hsr, ka, by simp⟩
        clear ka hsr
        go_wp2_with (at_builtin; go_must (refine wpList_append_tw (d := kRun) (G := No) (F := fun k' => k' = (wr.heap.size + 1)) rfl (.tmp 42) (.tmp 48) 24 rfl 40 (.agg #[.int .u8 0, .int .u64 0, .int .u64 0]) 24 Try.underlying24 rinfo rfl _ _ 1 R [(a1, a2, 1)] [.int .u8 a1, .int .u64 a2, .int .u64 1] rfl HA.out.1 rfl HA.out.2.1 (reps_run HO.out) rfl (fun _ h => h.elim) ?_ ?_ ?_))
        · have := HT.out.2.2; simp only [maxLen]; omega
        · have := HT.out.2.2; omega
        · intro v' w' htw2 hk2 hb2
          have hb3 : v'.ownBlock = (Value.slice B 0 d).ownBlock ∨ v'.ownBlock = some ((wr.alloc (.cells #[.int .u8 a1, .int .u64 a2] 33)).drew.alloc (.cells #[.int .u8 a1, .int .u64 a2, .int .u64 1] 40)).heap.size := by
            rcases hb2 with h | h
            · exact .inl h
            · exact .inr (by rw [h]; simp)
          have HF : Hid (TW kRun 40 w' No v' (joinI (s.take (k + 1))) ∧ Fresh w4 v' ∧ Kept No w4 w') := ⟨by rw [HN.out.1, HS.out]; exact htw2, HT.out.2.1.next (w := (wr.alloc (.cells #[.int .u8 a1, .int .u64 a2] 33)).drew.alloc (.cells #[.int .u8 a1, .int .u64 a2, .int .u64 1] 40)) ((HN.out.2.2.2.trans HA.out.2.2.1).size) hb3, (HN.out.2.2.2.trans HA.out.2.2.1).fresh hk2 HT.out.2.1⟩
          clear htw2 hk2 hb2 hb3
          go_wp2
          go_roundw
          case rel => exact ⟨k + 1, by omega, by go_num, HF.out.1, HF.out.2.1, HF.out.2.2⟩
          case measure => simp [intOf]; omega
      · obtain ⟨q, rfl⟩ : ∃ q, m = q + 1 := ⟨m - 1, by omega⟩
        obtain ⟨p, hp⟩ : ∃ p, R[q]? = some p := ⟨_, List.getElem?_eq_getElem (by omega)⟩
        have hR0 : R = R.take q ++ [p] := by
          rw [← take_succ_snoc hp, hm, List.take_length]
        have hq0 : (R.take q).length = q := by rw [List.length_take]; omega
        have hlast : R.getLast? = some p := by rw [hR0]; simp
        obtain ⟨b2, off2, _, e, _, _⟩ := HT.out.1.get hp
        subst e
        obtain ⟨pok, pcell⟩ := tw_runs HT.out.1 hp
        have prun := rowsF_run HN.out.2.1 p (List.mem_of_getElem? hp)
        obtain ⟨p1, p2, p3⟩ := p
        simp only at pcell
        have hb2 := fun W => behind_op p1 p2 p3 W pok prun
        have hwp : IntKind.u64.wrap (p3 + 1) = p3 + 1 := by
          have h1 := runI_iff.1 prun
          have h2 := okRun_iff.1 pok
          simp only at h1 h2
          rw [IntKind.wrap_u64]; omega
        obtain ⟨bv, hbv⟩ : ∃ bv, bv = decide ((p1, p2 + p3) = (a1, a2)) := ⟨_, rfl⟩
        have HP2 : Hid (R[q]? = some (p1, p2, p3) ∧ R = R.take q ++ [(p1, p2, p3)] ∧ (R.take q).length = q ∧ (∀ W, Kept No wr W → ∀ i u, [Value.int .u8 p1, .int .u64 p2, .int .u64 p3][i]? = some u → W.cell? ⟨b2, off2 + q * 3 + i, none⟩ = some u) ∧ bv = decide ((p1, p2 + p3) = (a1, a2)) ∧ R.getLast? = some (p1, p2, p3) ∧ InR .u64 (p3 + 1)) :=
          ⟨hp, hR0, hq0, fun W hW i u hu => hW.cell (pcell i u hu) id, hbv, hlast, by
            have h1 := runI_iff.1 prun
            have h2 := okRun_iff.1 pok
            simp only at h1 h2
            rw [inr_u64]; omega⟩
        have hm0 : (0 : Int) ≤ (q : Int) := by omega
        have hqq : q < q + 1 := by omega
        have hqd : q < d := by omega
        have hq3 : (q : Int) < (q : Int) + 1 := by omega
        have hm1 : ((q : Int) + 1 - 1) = q := by omega
        have hm2 : IntKind.i64.wrap (q : Int) = q := by rw [IntKind.wrap_i64]; omega
        have HO : Hid (okRun (a1, a2, 1)) := by have := okID_iff.1 HN.out.2.2.1; have h2 : okRun (a1, a2, 1) := (by rw [okRun_iff]; simp only at this ⊢; omega); exact h2
        clear hm hp hR0 hq0 hlast pok pcell prun hbv
        cases bv
        · have HS : Hid (joinStep R (a1, a2) = R ++ [(a1, a2, 1)]) := joinStep_new R _ fun p hp e => by
            rw [HP2.out.2.2.2.2.2.1] at hp
            injection hp with hp
            subst hp
            have := HP2.out.2.2.2.2.1
            simp only at e
            rw [e] at this
            simp at this
          go_wp2_with (with_reducible refine wpList_load_whole rfl (.tmp 18) 33 rfl g (off + k * 2) rfl _ agg33 HC.out ?_)
          refine wp_region_plan No (.pur 0 (.pur 1 (.pur 2 (.pur 3 (.pur 4 (.pur 5 (.rd 6 (.rd 8 (.grow 7 (.pur 9 (.pur 10 .fin))))))))))) [] mixed (by kernel_rfl) ?_
          repeat ((first | refine pl_pur (by simp only [List.getD_cons_succ, List.getD_cons_zero]; rfl) _ (by rfl) (fun W => by go_simp; with_reducible rfl) ?_ | refine pl_rd (by simp only [List.getD_cons_succ, List.getD_cons_zero]; rfl) _ (by rfl) (fun W hW => by have hc := kcell hW; clear hW; go_simp; with_reducible rfl) ?_); simp only [Act.put, List.setIfInBounds_toArray, List.set_cons_zero, List.set_cons_succ])
          refine pl_loadw (by simp only [List.getD_cons_succ, List.getD_cons_zero]; rfl) (by rfl) (.tmp 28) 40 (by rfl) b2 (off2 + q * 3) (by rfl) _ agg40 (HP2.out.2.2.2.1 _ (((Kept.refl _ _).alloc _).drew)) (fun h => h) ?_
          simp only [Act.put, List.setIfInBounds_toArray, List.set_cons_zero, List.set_cons_succ]
          refine pl_loadw (by simp only [List.getD_cons_succ, List.getD_cons_zero]; rfl) (by rfl) (.tmp 6) 33 (by rfl) wr.heap.size 0 (by rfl) [.int .u8 (a1, a2).1, .int .u64 (a1, a2).2] agg33 (two_cells (HQ.out _ ((Kept.refl _ _).drew)).1 (HQ.out _ ((Kept.refl _ _).drew)).2) (fun h => h) ?_
          simp only [Act.put, List.setIfInBounds_toArray, List.set_cons_zero, List.set_cons_succ]
          refine pl_grow (by simp only [List.getD_cons_succ, List.getD_cons_zero]; rfl) ?_
          go_wp2_with (go_at_call 33; ((with_reducible refine (hb2 _).mono ?_); rintro e w5 ⟨rfl, hk5⟩))
          refine GPost.mk hk5 ?_
          have K5 : Hid (Kept No wr w5) := ((Kept.refl _ _).alloc _).drew.trans hk5
          have hq5 := HQ.out w5 ((Kept.refl _ _).drew.trans hk5)
          have q0 := hq5.1
          have q1 := hq5.2
          clear hq5 hk5
          refine pl_pur (by simp only [List.getD_cons_succ, List.getD_cons_zero]; rfl) _ (by rfl) (exec_eql33 (p := (p1, p2 + p3)) (q := (a1, a2)) HP2.out.2.2.2.2.1 (by rfl) (by rfl) (by rfl)) ?_
          simp only [Act.put, List.setIfInBounds_toArray, List.set_cons_zero, List.set_cons_succ]
          repeat ((first | refine pl_pur (by simp only [List.getD_cons_succ, List.getD_cons_zero]; rfl) _ (by rfl) (fun W => by go_simp; with_reducible rfl) ?_ | refine pl_rd (by simp only [List.getD_cons_succ, List.getD_cons_zero]; rfl) _ (by rfl) (fun W hW => by have hc := kcell hW; clear hW; go_simp; with_reducible rfl) ?_); simp only [Act.put, List.setIfInBounds_toArray, List.set_cons_zero, List.set_cons_succ])
          refine pl_fin ?_
          clear hm0 hqq hqd hq3 hm1 hm2 hwp
          have HK : Hid (Kept No wr w5) := K5.out
          have ka : Kept No wr (w5.alloc (.cells #[.int .u8 a1, .int .u64 a2, .int .u64 1] 40)) := HK.out.alloc _
          have hsr := src_new3 (w := w5) (N := w5.heap.size) (e := 40) (a := .int .u8 a1) (b := .int .u64 a2) (c := .int .u64 1) rfl rfl rfl rfl
          have HA : Hid (TW kRun 40 (w5.alloc (.cells #[.int .u8 a1, .int .u64 a2, .int .u64 1] 40)) No (.slice (some ⟨b2, off2, none⟩) (q + 1) d) R ∧ Src (w5.alloc (.cells #[.int .u8 a1, .int .u64 a2, .int .u64 1] 40)) (fun k => k = w5.heap.size) 3 (.slice (some ⟨w5.heap.size, 0, none⟩) 1 1) 1 [.int .u8 a1, .int .u64 a2, .int .u64 1] ∧ Kept No wr (w5.alloc (.cells #[.int .u8 a1, .int .u64 a2, .int .u64 1] 40)) ∧ (w5.alloc (.cells #[.int .u8 a1, .int .u64 a2, .int .u64 1] 40)).heap.size = w5.heap.size + 1) := ⟨HT.out.1.new ka, hsr, ka, by rw [World.size_alloc, show w5.heap.size = w5.heap.size from rfl]⟩
          clear ka hsr
          go_wp2_with (at_builtin; go_must (refine wpList_append_tw (d := kRun) (G := No) (F := fun k' => k' = w5.heap.size) rfl (.tmp 42) (.tmp 48) 24 rfl 40 (.agg #[.int .u8 0, .int .u64 0, .int .u64 0]) 24 Try.underlying24 rinfo rfl _ _ 1 R [(a1, a2, 1)] [.int .u8 a1, .int .u64 a2, .int .u64 1] rfl HA.out.1 rfl HA.out.2.1 (reps_run HO.out) rfl (fun _ h => h.elim) ?_ ?_ ?_))
          · have := HT.out.2.2; simp only [maxLen]; omega
          · have := HT.out.2.2; omega
          · intro v' w' htw2 hk2 hb2
            have hb3 : v'.ownBlock = (Value.slice (some ⟨b2, off2, none⟩) (q + 1) d).ownBlock ∨ v'.ownBlock = some (w5.alloc (.cells #[.int .u8 a1, .int .u64 a2, .int .u64 1] 40)).heap.size := by
              rcases hb2 with h | h
              · exact .inl h
              · exact .inr (by rw [h]; simp)
            have HF : Hid (TW kRun 40 w' No v' (joinI (s.take (k + 1))) ∧ Fresh w4 v' ∧ Kept No w4 w') := ⟨by rw [HN.out.1, HS.out]; exact htw2, HT.out.2.1.next (w := w5.alloc (.cells #[.int .u8 a1, .int .u64 a2, .int .u64 1] 40)) ((HN.out.2.2.2.trans HA.out.2.2.1).size) hb3, (HN.out.2.2.2.trans HA.out.2.2.1).fresh hk2 HT.out.2.1⟩
            clear htw2 hk2 hb2 hb3
            go_wp2
            go_roundw
            case rel => exact ⟨k + 1, by omega, by go_num, HF.out.1, HF.out.2.1, HF.out.2.2⟩
            case measure => simp [intOf]; omega
        · have HS : Hid (joinStep R (a1, a2) = R.set q (p1, p2, p3 + 1)) := by
            have h1 : (p1, p2 + p3) = (a1, a2) := by simpa using HP2.out.2.2.2.2.1.symm
            have h2 := joinStep_same (R.take q) (p1, p2, p3) (a1, a2) h1
            rw [← HP2.out.2.1] at h2
            rw [h2]
            have h3 : (R.take q ++ [(p1, p2, p3)]).set (R.take q).length (p1, p2, p3 + 1) = R.take q ++ [(p1, p2, p3 + 1)] := by simp
            rw [← HP2.out.2.1, HP2.out.2.2.1] at h3
            exact h3.symm
          go_wp2_with (with_reducible refine wpList_load_whole rfl (.tmp 18) 33 rfl g (off + k * 2) rfl _ agg33 HC.out ?_)
          refine wp_region_plan No (.pur 0 (.pur 1 (.pur 2 (.pur 3 (.pur 4 (.pur 5 (.rd 6 (.rd 8 (.grow 7 (.pur 9 (.pur 10 .fin))))))))))) [] mixed (by kernel_rfl) ?_
          repeat ((first | refine pl_pur (by simp only [List.getD_cons_succ, List.getD_cons_zero]; rfl) _ (by rfl) (fun W => by go_simp; with_reducible rfl) ?_ | refine pl_rd (by simp only [List.getD_cons_succ, List.getD_cons_zero]; rfl) _ (by rfl) (fun W hW => by have hc := kcell hW; clear hW; go_simp; with_reducible rfl) ?_); simp only [Act.put, List.setIfInBounds_toArray, List.set_cons_zero, List.set_cons_succ])
          refine pl_loadw (by simp only [List.getD_cons_succ, List.getD_cons_zero]; rfl) (by rfl) (.tmp 28) 40 (by rfl) b2 (off2 + q * 3) (by rfl) _ agg40 (HP2.out.2.2.2.1 _ (((Kept.refl _ _).alloc _).drew)) (fun h => h) ?_
          simp only [Act.put, List.setIfInBounds_toArray, List.set_cons_zero, List.set_cons_succ]
          refine pl_loadw (by simp only [List.getD_cons_succ, List.getD_cons_zero]; rfl) (by rfl) (.tmp 6) 33 (by rfl) wr.heap.size 0 (by rfl) [.int .u8 (a1, a2).1, .int .u64 (a1, a2).2] agg33 (two_cells (HQ.out _ ((Kept.refl _ _).drew)).1 (HQ.out _ ((Kept.refl _ _).drew)).2) (fun h => h) ?_
          simp only [Act.put, List.setIfInBounds_toArray, List.set_cons_zero, List.set_cons_succ]
          refine pl_grow (by simp only [List.getD_cons_succ, List.getD_cons_zero]; rfl) ?_
          go_wp2_with (go_at_call 33; ((with_reducible refine (hb2 _).mono ?_); rintro e w5 ⟨rfl, hk5⟩))
          refine GPost.mk hk5 ?_
          have K5 : Hid (Kept No wr w5) := ((Kept.refl _ _).alloc _).drew.trans hk5
          have hq5 := HQ.out w5 ((Kept.refl _ _).drew.trans hk5)
          have q0 := hq5.1
          have q1 := hq5.2
          clear hq5 hk5
          refine pl_pur (by simp only [List.getD_cons_succ, List.getD_cons_zero]; rfl) _ (by rfl) (exec_eql33 (p := (p1, p2 + p3)) (q := (a1, a2)) HP2.out.2.2.2.2.1 (by rfl) (by rfl) (by rfl)) ?_
          simp only [Act.put, List.setIfInBounds_toArray, List.set_cons_zero, List.set_cons_succ]
          repeat ((first | refine pl_pur (by simp only [List.getD_cons_succ, List.getD_cons_zero]; rfl) _ (by rfl) (fun W => by go_simp; with_reducible rfl) ?_ | refine pl_rd (by simp only [List.getD_cons_succ, List.getD_cons_zero]; rfl) _ (by rfl) (fun W hW => by have hc := kcell hW; clear hW; go_simp; with_reducible rfl) ?_); simp only [Act.put, List.setIfInBounds_toArray, List.set_cons_zero, List.set_cons_succ])
          refine pl_fin ?_
          have hT5 := HT.out.1.new K5.out
          have hTc := tw_count hT5 HT.out.2.2.symm HP2.out.1 (p3 + 1) HP2.out.2.2.2.2.2.2
          have hfrz := hTc.2
          have hc3 := HP2.out.2.2.2.1 w5 K5.out 2 _ rfl
          have HF : Hid (TW kRun 40 (w5.setCell ⟨b2, off2 + q * 3 + 2, none⟩ (.int .u64 (p3 + 1))) No (.slice (some ⟨b2, off2, none⟩) (q + 1) d) (joinI (s.take (k + 1))) ∧ Kept No w4 (w5.setCell ⟨b2, off2 + q * 3 + 2, none⟩ (.int .u64 (p3 + 1)))) := ⟨by rw [HN.out.1, HS.out]; exact hTc.1, (HN.out.2.2.2.trans K5.out).fresh ((Kept.refl (fun k => (Value.slice (some ⟨b2, off2, none⟩) (q + 1) d).ownBlock = some k) w5).setCell (p := ⟨b2, off2 + q * 3 + 2, none⟩) (fun _ => rfl) _) HT.out.2.1⟩
          clear hT5 hTc
          go_wp2
          go_roundw
          case rel => exact ⟨k + 1, by omega, by go_num, HF.out.1, HT.out.2.1, HF.out.2⟩
          case measure => simp [intOf]; omega
    · go_wp2
      go_ret
      have : k = n := by omega
      subst this
      have hx : s.take k = s := by rw [H5.out.1]; simp
      rw [hx] at htw
      exact ⟨_, s, rfl, H4.out.2.2, htw, fun i hi => Nat.le_trans H4.out.1.size (hfr i hi), H4.out.1.trans hke⟩
end Go.Proofs.Ytjokkmhndahnkaa
