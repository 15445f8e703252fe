/- The package pull, general: Next, that chooses and asks. -/
import Derived.Test.YtfnecdkfhackkaaPg4
set_option linter.unusedVariables false
set_option linter.unusedSimpArgs false
namespace Go.Proofs.Ytfnecdkfhackkaa
open Go.RowKit

set_option maxRecDepth 20000 in
set_option maxHeartbeats 8000000 in
theorem next_chosen {w : World} {e : PE} {vh vs : Value} {b rb : Nat} {G F O : Nat → Prop} (x : PS) (hx : x.ok) (px : Nat) (hE : Env w e vh vs b rb G F) (ho : O px) (hO : ∀ k, O k → k ≠ b ∧ k ≠ rb ∧ ¬ G k ∧ ¬ F k) (hOl : ∀ k, O k → k < w.heap.size) (now T : Int) (hT : nowI now = T)
    (cn : Int) (hcn : u64w (x.count + 1) = cn) (hs : List Int) (s' : Nat) (hP : PxIs w px x (.pointer none)) (hfind : (ringN x.n x.sender).find? (fun s => lacksI x e s (nextS e s)) = some s') (hhs : helpersI ({ x with sender := s' } : PS) e (s' : Int) (nextS e s') = hs) (hpk : ∃ q, (ringN x.n x.last).find? (fun (p : Nat) => hs.contains (p : Int)) = some q)
    : Calls Try.prog 39 #[.pointer (some ⟨px, 0, none⟩), .int .i64 now, vh, .pointer (some ⟨b, 0, none⟩), vs] w fun r w' => NextOut w w' px O r { { x with sender := s' } with want := some (s', (nextS e s'), true, T), count := cn, last := pickI ({ x with sender := s' } : PS) hs } ((s' : Int), (nextS e s')) (pickI ({ x with sender := s' } : PS) hs : Nat) true := by
  have hmm : max 0 (min now 1099511627776) = T := hT
  have hpl := hOl px ho
  have HT : Hid (∀ W, Kept O (w.alloc (.cells #[.int .u8 0, .int .u64 0] 40)) W → Kept O w W ∧ Rc w W) := by
    intro W hW
    have h := heap_alloc_new w (.cells #[.int .u8 0, .int .u64 0] 40)
    exact ⟨((Kept.refl _ w).alloc _).trans hW, (hW.block _ (lt_of_heap h) (fun e => absurd (hOl _ e) (Nat.lt_irrefl _))).trans h⟩
  have HE : Hid (∀ W, Kept O w W → Env W e vh vs b rb G F) := fun W hW => hE.kept hW (fun h => (hO _ h).1 rfl) (fun h => (hO _ h).2.1 rfl) (fun k hg ho => (hO _ ho).2.2.1 hg) (fun k hf ho => (hO _ ho).2.2.2 hf)
  have HD : Hid (px ≠ b ∧ px ≠ rb ∧ (∀ k, G k → k ≠ px) ∧ (∀ k, F k → k ≠ px)) := ⟨(hO _ ho).1, (hO _ ho).2.1, fun k hg e => (hO _ ho).2.2.1 (e ▸ hg), fun k hf e => (hO _ ho).2.2.2 (e ▸ hf)⟩
  have HO : Hid (O px ∧ x.ok ∧ (∀ k, O k → k < w.heap.size)) := ⟨ho, hx, hOl⟩
  clear hE hO hx
  have hcount : IntKind.u64.wrap (x.count + 1) = cn := hcn
  have HF' : Hid (PxIs w px x (.pointer none) ∧ (ringN x.n x.sender).find? (fun s => lacksI x e s (nextS e s)) = some s') := ⟨hP, hfind⟩
  have HHS : Hid (helpersI (({ x with sender := s' }) : PS) e (s' : Int) (nextS e s') = hs) := hhs
  have HPK : Hid (∃ q, (ringN x.n x.last).find? (fun (p : Nat) => hs.contains (p : Int)) = some q) := hpk
  have p3 := hP.cell.2.2.2.1
  have hf255 : (s' : Int) ≤ 255 := by have := ringN_lt HO.out.2.1.sender s' (List.mem_of_find?_eq_some hfind); have := HO.out.2.1.n2; omega
  have k0 : Kept No w (w.alloc (.cells #[.int .u8 0, .int .u64 0] 40)) := (Kept.refl _ _).alloc _
  have hC := choose_any x HO.out.2.1 px (HF'.out.1.kept k0 id) ((HE.out w (Kept.refl _ _)).new k0) HD.out
  obtain ⟨nx, hnx⟩ : ∃ nx, nx = nextS e s' := ⟨_, rfl⟩
  rw [← hnx] at HHS ⊢
  have HNX : Hid (nx = nextS e s') := hnx
  clear hP hfind hhs hpk k0 hnx hT hcn
  go_enter Try.func39, Try.ntmps39
  go_wp2_with (go_at_call 57; go_must ((with_reducible refine hC.mono ?_); rintro r w1 ⟨rfl, hk1, hsome, _⟩; obtain ⟨wb, hwb, h1, h2⟩ := hsome s' HF'.out.2; rw [← HNX.out] at h2; obtain ⟨k1, h3⟩ := HT.out w1 (hk1.mono fun k _ e => by have e : k = px := e; rw [e]; exact HO.out.1); have hwb' : w.heap.size + 1 ≤ wb := (by simpa using hwb); have HB : Hid (Kept O w w1 ∧ PxIs w1 px ({ x with sender := s' } : PS) (.pointer (some ⟨wb, 0, none⟩)) ∧ WbIs w1 wb s' nx false 0 ∧ Rc w w1 ∧ (wb < w.heap.size → O wb) ∧ wb ≠ px ∧ wb ≠ w.heap.size) := ⟨k1, h1, h2, h3, fun h => absurd h (by omega), by omega, by omega⟩; have q2 := h1.cell.2.2.1; have q3 := h1.cell.2.2.2.1; have q6 := h1.cell.2.2.2.2.2.2; have b0 := h2.cell.1; have b1 := h2.cell.2.1; have b2 := h2.cell.2.2.1; have b3 := h2.cell.2.2.2; have f2 := h2.fro 2; have f3 := h2.fro 3; have f6 := h1.fro 6; have hne : ¬ wb = px := (by omega); have hne2 : ¬ px = wb := (by omega); clear hC hsome hk1 k1 h1 h2 h3 hwb p3))
  all_goals
    refine wp_region_plan No (.pur 0 (.pur 1 (.pur 2 (.pur 3 (.pur 4 (.pur 5 (.rd 6 (.pur 7 (.pur 8 (.pur 9 (.pur 10 (.pur 11 (.pur 14 (.pur 15 (.pur 16 (.rd 12 (.pur 13 (.rd 17 (.pur 18 (.pur 19 (.pur 20 .fin))))))))))))))))))))) [] mixed (by kernel_rfl) ?_
    repeat ((first | refine pl_pur (by simp only [List.getD_cons_succ, List.getD_cons_zero]; rfl) _ (by rfl) (fun W => by go_simp; with_reducible rfl) ?_ | refine pl_rd (by simp only [List.getD_cons_succ, List.getD_cons_zero]; rfl) _ (by rfl) (fun W hW => by have hc := hW.cell ((show w1.drew.cell? ⟨wb, 2, none⟩ = some (.bool false) from b2)) id; clear hW; go_simp; with_reducible rfl) ?_ | refine pl_skip (by simp only [List.getD_cons_succ, List.getD_cons_zero]; rfl) (by rfl) ?_ | refine pl_skip_rd (by simp only [List.getD_cons_succ, List.getD_cons_zero]; rfl) (by rfl) ?_ | refine pl_skip_grow (by simp only [List.getD_cons_succ, List.getD_cons_zero]; rfl) (by rfl) ?_ | refine pl_skip_act (by simp only [List.getD_cons_succ, List.getD_cons_zero]; rfl) (by rfl) ?_); simp only [Act.put, List.setIfInBounds_toArray, List.set_cons_zero, List.set_cons_succ])
    refine pl_fin ?_
    have HQ : Hid (Kept O w ((((w1.setCell ⟨wb, 2, none⟩ (.bool true)).setCell ⟨wb, 3, none⟩ (.int .i64 T)).setCell ⟨px, 6, none⟩ (.int .u64 cn)).drew) ∧ PxIs ((((w1.setCell ⟨wb, 2, none⟩ (.bool true)).setCell ⟨wb, 3, none⟩ (.int .i64 T)).setCell ⟨px, 6, none⟩ (.int .u64 cn)).drew) px { ({ x with sender := s' } : PS) with count := cn } (.pointer (some ⟨wb, 0, none⟩)) ∧ WbIs ((((w1.setCell ⟨wb, 2, none⟩ (.bool true)).setCell ⟨wb, 3, none⟩ (.int .i64 T)).setCell ⟨px, 6, none⟩ (.int .u64 cn)).drew) wb s' nx true T ∧ Rc w ((((w1.setCell ⟨wb, 2, none⟩ (.bool true)).setCell ⟨wb, 3, none⟩ (.int .i64 T)).setCell ⟨px, 6, none⟩ (.int .u64 cn)).drew)) := asked_worldg HB.out.1 HB.out.2.1 HB.out.2.2.1 HB.out.2.2.2.1 HO.out.1 HB.out.2.2.2.2.1 hne hpl HB.out.2.2.2.2.2.2
    have HWB : Hid (wb < w.heap.size → O wb) := HB.out.2.2.2.2.1
    have hwr := HB.out.2.2.2.2.2.2
    have hE2 := HE.out _ HQ.out.1
    have hH := helpers_any (({ x with sender := s' } : PS) : PS) e vs px ((((w1.setCell ⟨wb, 2, none⟩ (.bool true)).setCell ⟨wb, 3, none⟩ (.int .i64 T)).setCell ⟨px, 6, none⟩ (.int .u64 cn)).drew) hE2.m hE2.sk hE2.flt HQ.out.2.1.cell.1 HQ.out.2.1.cell.2.1 s' nx hf255
    clear hE2
    rw [HHS.out] at hH
    go_wp2_with (go_at_call 58; go_must ((with_reducible refine hH.mono ?_); rintro r w2 ⟨v5, rfl, ht5, hf5, hk2⟩; have H2 : Hid (Kept O w w2 ∧ PxIs w2 px { ({ x with sender := s' } : PS) with count := cn } (.pointer (some ⟨wb, 0, none⟩)) ∧ WbIs w2 wb s' nx true T ∧ Rc w w2 ∧ TW (kI .i64) 3 w2 No v5 hs) := ⟨HQ.out.1.trans hk2.no, HQ.out.2.1.kept hk2 id, HQ.out.2.2.1.kept hk2 id, (hk2.block _ (lt_of_heap HQ.out.2.2.2) id).trans HQ.out.2.2.2, ht5⟩; clear ht5 hf5 hk2))
    have n0 : w2.drew.cell? ⟨px, 0, none⟩ = some (.int .i64 x.n) := H2.out.2.1.cell.1
    have n5 : w2.drew.cell? ⟨px, 5, none⟩ = some (.int .i64 x.last) := H2.out.2.1.cell.2.2.2.2.2.1
    clear HQ hH q2 q3 q6 b0 b1 b2 b3 f2 f3 f6 HB
    have hwl : (natI (wayN x.n x.last)).length ≤ 64 := by have := HO.out.2.1.n2; simp [natI, wayN]; omega
    have hsi : ∀ y ∈ [(x.last : Int)], InR .i64 y := fun y hy => by rw [List.mem_singleton.1 hy, inr_i64]; have := HO.out.2.1.last; have := HO.out.2.1.n2; omega
    have HL : Hid ((natI (wayN x.n x.last)).length ≤ 64 ∧ (∀ y ∈ [(x.last : Int)], InR .i64 y) ∧ natI (ringN x.n x.last) = natI (wayN x.n x.last) ++ [(x.last : Int)]) := ⟨hwl, hsi, by rw [ringN, natI_snoc]⟩
    have hWay := fun W => way_any x.n x.last HO.out.2.1.n2 HO.out.2.1.last W
    have hn64 := HO.out.2.1.n2
    clear hwl hsi
    refine wp_region_plan No (.pur 0 (.pur 1 (.pur 2 (.pur 4 (.pur 5 (.pur 6 (.pur 9 (.pur 10 (.pur 11 (.pur 16 (.rd 3 (.rd 7 (.rd 12 (.fork 8 13 (.grow 13 (.act 14 (.rd 15 .fin))) (.grow 8 (.act 14 (.rd 15 .fin))))))))))))))))) [14] mixed (by kernel_rfl) ?_
    repeat ((first | refine pl_pur (by simp only [List.getD_cons_succ, List.getD_cons_zero]; rfl) _ (by rfl) (fun W => by go_simp; with_reducible rfl) ?_ | refine pl_rd (by simp only [List.getD_cons_succ, List.getD_cons_zero]; rfl) _ (by rfl) (fun W hW => by have hc := hW.cell (n0) id; clear hW; go_simp; with_reducible rfl) ?_ | refine pl_rd (by simp only [List.getD_cons_succ, List.getD_cons_zero]; rfl) _ (by rfl) (fun W hW => by have hc := hW.cell (n5) id; clear hW; go_simp; with_reducible rfl) ?_); simp only [Act.put, List.setIfInBounds_toArray, List.set_cons_zero, List.set_cons_succ])
    clear n0 n5
    refine pl_fork (by simp only [List.getD_cons_succ, List.getD_cons_zero]; rfl) (by simp only [List.getD_cons_succ, List.getD_cons_zero]; rfl) ?_ ?_
    · go_wp2_with (go_at_call 59; ((with_reducible refine (hWay _).mono ?_); rintro r w3 ⟨v1, rfl, ht1, hf1, hk1⟩))
      refine GPost.mk hk1 ?_
      have H1 : Hid (TW (kI .i64) 3 (w3.alloc (.cells #[.int .i64 x.last] 3)) No v1 (natI (wayN x.n x.last)) ∧ Fresh w2 v1 ∧ Kept No w2 (w3.alloc (.cells #[.int .i64 x.last] 3))) := ⟨ht1.new ((Kept.refl _ _).alloc _), hf1, ((Kept.refl No w2).drew.trans hk1).alloc _⟩
      clear ht1 hf1 hk1
      obtain ⟨A1, m1, c1, e1⟩ : ∃ A n c, v1 = .slice A n c := by obtain ⟨A, c, h, _⟩ := H1.out.1.slice; exact ⟨A, _, c, h⟩
      subst e1
      refine pl_grow (by simp only [List.getD_cons_succ, List.getD_cons_zero]; rfl) ?_
      go_wp2
      refine GPost.mk ((Kept.refl _ _).alloc _) ?_
      refine pl_act (by simp only [List.getD_cons_succ, List.getD_cons_zero]; rfl) ?_
      refine wpList_append_tw (d := kI .i64) (G := No) (F := fun k' => k' = w3.heap.size) rfl (.tmp 111) (.tmp 116) 42 rfl 3 (.int .i64 0) 8 Try.underlying42 info_i64 rfl _ _ 1 _ [(x.last : Int)] [.int .i64 x.last] rfl H1.out.1 rfl (src_new rfl) (reps_ints HL.out.2.1) rfl (fun _ h => h.elim) (by have := HL.out.1; simp only [maxLen]; omega) (by have := HL.out.1; omega) ?_
      intro v2 w4 ht2 hk2' hb2
      have HF : Hid (TW (kI .i64) 3 w4 No v2 (natI (ringN x.n x.last)) ∧ Kept No w2 w4) := ⟨by rw [HL.out.2.2]; exact ht2, H1.out.2.2.fresh hk2' H1.out.2.1⟩
      have hl2 : (natI (ringN x.n x.last)).length = x.n := by rw [natI, List.length_map]; exact ringN_len HO.out.2.1.n1
      obtain ⟨A2, c2, rfl, hc21, hc22⟩ := HF.out.1.slice
      rw [hl2] at hc21 HF ⊢
      simp only [maxLen] at hc22
      clear ht2 hk2' hb2 H1 hl2
      refine APost.mk ?_
      repeat ((first | refine pl_pur (by simp only [List.getD_cons_succ, List.getD_cons_zero]; rfl) _ (by rfl) (fun W => by go_simp; with_reducible rfl) ?_ | refine pl_rd (by simp only [List.getD_cons_succ, List.getD_cons_zero]; rfl) _ (by rfl) (fun W hW => by have hc := kcell hW; clear hW; go_simp; with_reducible rfl) ?_); simp only [Act.put, List.setIfInBounds_toArray, List.set_cons_zero, List.set_cons_succ])
      refine pl_fin ?_
      go_wp2
      go_loopw [119] (fun i wr => ∃ k : Nat, k ≤ x.n ∧ i = .int .i64 k ∧ w4 = wr ∧ (∀ (j : Nat) p, j < k → (ringN x.n x.last)[j]? = some p → hs.contains (p : Int) = false)) (fun i _ => x.n - (intOf i).toNat)
      case atStart => exact ⟨0, Nat.zero_le _, by first | rfl | trivial, by first | rfl | trivial, fun _ _ h => absurd h (Nat.not_lt_zero _)⟩
      case round =>
        obtain ⟨k, hk, rfl, rfl, hno⟩ := hrel
        have HN : Hid (∀ (j : Nat) p, j < k → (ringN x.n x.last)[j]? = some p → hs.contains (p : Int) = false) := hno
        clear hno
        by_cases hlt : k < x.n
        · obtain ⟨q, hq⟩ : ∃ q, (ringN x.n x.last)[k]? = some q := ⟨_, List.getElem?_eq_getElem (by rw [ringN_len HO.out.2.1.n1]; exact hlt)⟩
          have hns : (natI (ringN x.n x.last))[k]? = some (q : Int) := by rw [natI, List.getElem?_map, hq]; rfl
          obtain ⟨g2, o2, _, ea, _, _⟩ := HF.out.1.get hns
          subst ea
          have z0 := (tw_int HF.out.1 hns).2
          have hC := contains_any v5 hs (q : Int) w4 _ (H2.out.2.2.2.2.new HF.out.2).sl
          obtain ⟨cv, hcv⟩ : ∃ cv, cv = hs.contains (q : Int) := ⟨_, rfl⟩
          rw [← hcv] at hC
          have HQ2 : Hid (cv = hs.contains (q : Int) ∧ (ringN x.n x.last)[k]? = some q) := ⟨hcv, hq⟩
          clear hcv hq hns
          cases cv
          · go_wp2_with (go_at_call 60; ((with_reducible refine hC.mono ?_); rintro r w5 ⟨rfl, rfl⟩))
            go_roundw
            case rel =>
              refine ⟨k + 1, by omega, by go_num, by first | rfl | trivial, fun j p hj hp => ?_⟩
              rcases Nat.lt_or_ge j k with h | h
              · exact HN.out j p h hp
              · have : j = k := by omega
                subst this
                rw [HQ2.out.2] at hp
                injection hp with hp
                rw [← hp]
                exact HQ2.out.1.symm
            case measure => simp [intOf]; omega
          · have h4 := H2.out.2.1.kept HF.out.2 id
            have zf := h4.fro 5
            have z5 := h4.cell.2.2.2.2.2.1
            have HP4 : Hid (PxIs w4 px { ({ x with sender := s' } : PS) with count := cn } (.pointer (some ⟨wb, 0, none⟩)) ∧ WbIs w4 wb s' nx true T ∧ Rc w w4 ∧ Kept O w w4) := ⟨h4, H2.out.2.2.1.kept HF.out.2 id, (HF.out.2.block _ (lt_of_heap H2.out.2.2.2.1) id).trans H2.out.2.2.2.1, H2.out.1.trans HF.out.2.no⟩
            clear h4
            go_wp2_with (go_at_call 60; ((with_reducible refine hC.mono ?_); rintro r w5 ⟨rfl, rfl⟩))
            have hp5 : PxIs (w4.setCell ⟨px, 5, none⟩ (.int .i64 q)) px { ({ x with sender := s' } : PS) with count := cn, last := q } (.pointer (some ⟨wb, 0, none⟩)) := heap_setCell_same w4 px 5 _ 92 _ HP4.out.1
            have hw5 : WbIs (w4.setCell ⟨px, 5, none⟩ (.int .i64 q)) wb s' nx true T := (Below.heap_setCell _ _ _ _ hne).trans HP4.out.2.1
            have ht5 : Rc w (w4.setCell ⟨px, 5, none⟩ (.int .i64 q)) := (Below.heap_setCell _ _ _ _ (by simp only; omega)).trans HP4.out.2.2.1
            have hk5 : Kept O w (w4.setCell ⟨px, 5, none⟩ (.int .i64 q)) := HP4.out.2.2.2.setCell (p := ⟨px, 5, none⟩) (fun _ => HO.out.1) _
            obtain ⟨w5, hw5e⟩ : ∃ w5, w5 = w4.setCell ⟨px, 5, none⟩ (.int .i64 q) := ⟨_, rfl⟩
            rw [← hw5e] at hp5 hw5 ht5 hk5 ⊢
            clear hw5e z0 z5 zf
            have hfind := find_hit (p := fun p : Nat => hs.contains (p : Int)) HQ2.out.2 HQ2.out.1.symm HN.out
            have HR : Hid (pickI (({ x with sender := s' } : PS) : PS) hs = q) := by
              show pickI _ _ = _
              unfold pickI
              rw [show (ringN (({ x with sender := s' } : PS) : PS).n (({ x with sender := s' } : PS) : PS).last).find? (fun (p : Nat) => hs.contains (p : Int)) = some q from hfind]
            have u5 : w5.drew.cell? ⟨px, 5, none⟩ = some (.int .i64 q) := hp5.cell.2.2.2.2.2.1
            have v0 : w5.drew.cell? ⟨wb, 0, none⟩ = some (.int .u8 s') := hw5.cell.1
            have v1 : w5.drew.cell? ⟨wb, 1, none⟩ = some (.int .u64 nx) := hw5.cell.2.1
            have HT5 : Hid (w5.drew.heap[w.heap.size]? = some (.cells #[.int .u8 0, .int .u64 0] 40 (0, 0)) ∧ PxIs w5 px { ({ x with sender := s' } : PS) with count := cn, last := q } (.pointer (some ⟨wb, 0, none⟩)) ∧ WbIs w5 wb s' nx true T) := ⟨ht5, hp5, hw5⟩
            have t0 : w5.drew.cell? ⟨w.heap.size, 0, none⟩ = some (.int .u8 0) := by rw [World.cell?_drew, cell_of_row _ _ 0 _ _ _ ht5]; rfl
            have t1 : w5.drew.cell? ⟨w.heap.size, 1, none⟩ = some (.int .u64 0) := by rw [World.cell?_drew, cell_of_row _ _ 1 _ _ _ ht5]; rfl
            have tf0 : w5.drew.frozen? ⟨w.heap.size, 0, none⟩ = false := frozen_of_row w5 w.heap.size 0 _ _ ht5
            have tf1 : w5.drew.frozen? ⟨w.heap.size, 1, none⟩ = false := frozen_of_row w5 w.heap.size 1 _ _ ht5
            have HK5 : Hid (Kept O w w5) := hk5
            clear hp5 hw5 ht5 hk5 hfind
            refine wp_region_plan (fun k => k = w.heap.size) (.pur 0 (.pur 1 (.pur 2 (.pur 4 (.pur 5 (.pur 6 (.rd 3 (.rd 7 (.grow 8 (.pur 9 (.pur 10 .fin))))))))))) [] mixed (by kernel_rfl) ?_
            repeat ((first | refine pl_pur (by simp only [List.getD_cons_succ, List.getD_cons_zero]; rfl) _ (by rfl) (fun W => by go_simp; with_reducible rfl) ?_ | refine pl_rd (by simp only [List.getD_cons_succ, List.getD_cons_zero]; rfl) _ (by rfl) (fun W hW => by have hc := kcell hW; clear hW; go_simp; with_reducible rfl) ?_); simp only [Act.put, List.setIfInBounds_toArray, List.set_cons_zero, List.set_cons_succ])
            refine pl_loadw (by simp only [List.getD_cons_succ, List.getD_cons_zero]; rfl) (by rfl) (.tmp 133) 40 (by rfl) wb 0 (by rfl) _ agg40g (cells2 v0 v1) (by omega) ?_
            simp only [Act.put, List.setIfInBounds_toArray, List.set_cons_zero, List.set_cons_succ]
            refine pl_rd (by simp only [List.getD_cons_succ, List.getD_cons_zero]; rfl) _ (by rfl) (fun W hW => by have hc := hW.cell u5 (fun e => by have e : px = w.heap.size := e; omega); clear hW; go_simp; with_reducible rfl) ?_
            simp only [Act.put, List.setIfInBounds_toArray, List.set_cons_zero, List.set_cons_succ]
            refine pl_grow (by simp only [List.getD_cons_succ, List.getD_cons_zero]; rfl) ?_
            refine wpList_store_whole (by rfl) (.tmp 10) (.tmp 134) 40 (by rfl) w.heap.size 0 40 (by rfl) [.int .u8 s', .int .u64 nx] (by rfl) agg40g #[.int .u8 0, .int .u64 0] HT5.out.1 (by simp) (by simp [Value.oneCell']) ?_
            intro w6 HW6
            have n6 := new_rc HT5.out.1 HW6.out
            refine GPost.mk n6.2 ?_
            have hk6 : Kept O w w6 := HK5.out.drew.trans2 n6.2 (fun i hi e => absurd hi (by have e : i = w.heap.size := e; omega))
            have hs6 := hk6.size
            have H6 : Hid (w6.cell? ⟨w.heap.size, 0, none⟩ = some (.int .u8 s') ∧ w6.cell? ⟨w.heap.size, 1, none⟩ = some (.int .u64 nx) ∧ Kept O w w6 ∧ PullAt w6 px (fun k => O k ∨ New w w6 k) { ({ x with sender := s' } : PS) with want := some (s', nx, true, T), count := cn, last := q }) :=
              ⟨by rw [cell_of_row _ _ 0 _ _ _ n6.1]; rfl, by rw [cell_of_row _ _ 1 _ _ _ n6.1]; rfl, hk6,
                ⟨_, (PxIs.kept (w := w5.drew) HT5.out.2.1 n6.2 (fun e => by have e : px = w.heap.size := e; omega)), .inl HO.out.1, wb, rfl, hne, (by
                  have hw6 := (WbIs.kept (w := w5.drew) HT5.out.2.2 n6.2 (fun e => by have e : wb = w.heap.size := e; omega))
                  by_cases h : wb < w.heap.size
                  · exact .inl (HWB.out h)
                  · exact .inr ⟨by omega, lt_of_heap hw6⟩), (WbIs.kept (w := w5.drew) HT5.out.2.2 n6.2 (fun e => by have e : wb = w.heap.size := e; omega))⟩⟩
            clear n6 HW6 hk6 hs6
            repeat ((first | refine pl_pur (by simp only [List.getD_cons_succ, List.getD_cons_zero]; rfl) _ (by rfl) (fun W => by go_simp; with_reducible rfl) ?_ | refine pl_rd (by simp only [List.getD_cons_succ, List.getD_cons_zero]; rfl) _ (by rfl) (fun W hW => by have hc := kcell hW; clear hW; go_simp; with_reducible rfl) ?_); simp only [Act.put, List.setIfInBounds_toArray, List.set_cons_zero, List.set_cons_succ])
            refine pl_fin ?_
            go_wp2
            refine bodyPost_ret (res_cell_tmp2g (by rfl) _ _ w.heap.size 0 (by rfl) [.int .u8 s', .int .u64 nx] agg40g (cells2 H6.out.1 H6.out.2.1)) rfl ?_
            exact ⟨by rw [HR.out]; exact rfl, by rw [HR.out]; exact H6.out.2.2.2, H6.out.2.2.1⟩
        · exfalso
          obtain ⟨q, hq⟩ := HPK.out
          have h1 := List.find?_some hq
          obtain ⟨j, hj⟩ := List.mem_iff_getElem?.1 (List.mem_of_find?_eq_some hq)
          have h2 := HN.out j q (by have := (List.getElem?_eq_some_iff.1 hj).1; rw [ringN_len HO.out.2.1.n1] at this; omega) hj
          rw [h2] at h1
          cases h1
    · go_wp2
      refine GPost.mk ((Kept.refl _ _).alloc _) ?_
      refine pl_grow (by simp only [List.getD_cons_succ, List.getD_cons_zero]; rfl) ?_
      go_wp2_with (go_at_call 59; ((with_reducible refine (hWay _).mono ?_); rintro r w3 ⟨v1, rfl, ht1, hf1, hk1⟩))
      refine GPost.mk hk1 ?_
      have hwa : Kept No w2 (w2.alloc (.cells #[.int .i64 x.last] 3)) := (Kept.refl _ _).alloc _
      have HS2 : Hid (Src w3 (fun k' => k' = w2.heap.size) 1 (.slice (some ⟨w2.heap.size, 0, none⟩) 1 1) 1 [.int .i64 x.last]) := (src_new (w := w2) (e := 3) (c := .int .i64 x.last) rfl).move fun k hk hlt => hk1.block k hlt id
      have H1 : Hid (TW (kI .i64) 3 w3 No v1 (natI (wayN x.n x.last)) ∧ Fresh w2 v1 ∧ Kept No w2 w3) := ⟨ht1, fun k hk => Nat.le_trans hwa.size (by simpa using hf1 k hk), (hwa.drew).trans hk1⟩
      clear ht1 hf1 hk1 hwa
      obtain ⟨A1, m1, c1, e1⟩ : ∃ A n c, v1 = .slice A n c := by obtain ⟨A, c, h, _⟩ := H1.out.1.slice; exact ⟨A, _, c, h⟩
      subst e1
      refine pl_act (by simp only [List.getD_cons_succ, List.getD_cons_zero]; rfl) ?_
      refine wpList_append_tw (d := kI .i64) (G := No) (F := fun k' => k' = w2.heap.size) rfl (.tmp 111) (.tmp 116) 42 rfl 3 (.int .i64 0) 8 Try.underlying42 info_i64 rfl _ _ 1 _ [(x.last : Int)] [.int .i64 x.last] rfl H1.out.1 rfl HS2.out (reps_ints HL.out.2.1) rfl (fun _ h => h.elim) (by have := HL.out.1; simp only [maxLen]; omega) (by have := HL.out.1; omega) ?_
      intro v2 w4 ht2 hk2' hb2
      have HF : Hid (TW (kI .i64) 3 w4 No v2 (natI (ringN x.n x.last)) ∧ Kept No w2 w4) := ⟨by rw [HL.out.2.2]; exact ht2, H1.out.2.2.fresh hk2' H1.out.2.1⟩
      have hl2 : (natI (ringN x.n x.last)).length = x.n := by rw [natI, List.length_map]; exact ringN_len HO.out.2.1.n1
      obtain ⟨A2, c2, rfl, hc21, hc22⟩ := HF.out.1.slice
      rw [hl2] at hc21 HF ⊢
      simp only [maxLen] at hc22
      clear ht2 hk2' hb2 H1 hl2
      refine APost.mk ?_
      repeat ((first | refine pl_pur (by simp only [List.getD_cons_succ, List.getD_cons_zero]; rfl) _ (by rfl) (fun W => by go_simp; with_reducible rfl) ?_ | refine pl_rd (by simp only [List.getD_cons_succ, List.getD_cons_zero]; rfl) _ (by rfl) (fun W hW => by have hc := kcell hW; clear hW; go_simp; with_reducible rfl) ?_); simp only [Act.put, List.setIfInBounds_toArray, List.set_cons_zero, List.set_cons_succ])
      refine pl_fin ?_
      go_wp2
      go_loopw [119] (fun i wr => ∃ k : Nat, k ≤ x.n ∧ i = .int .i64 k ∧ w4 = wr ∧ (∀ (j : Nat) p, j < k → (ringN x.n x.last)[j]? = some p → hs.contains (p : Int) = false)) (fun i _ => x.n - (intOf i).toNat)
      case atStart => exact ⟨0, Nat.zero_le _, by first | rfl | trivial, by first | rfl | trivial, fun _ _ h => absurd h (Nat.not_lt_zero _)⟩
      case round =>
        obtain ⟨k, hk, rfl, rfl, hno⟩ := hrel
        have HN : Hid (∀ (j : Nat) p, j < k → (ringN x.n x.last)[j]? = some p → hs.contains (p : Int) = false) := hno
        clear hno
        by_cases hlt : k < x.n
        · obtain ⟨q, hq⟩ : ∃ q, (ringN x.n x.last)[k]? = some q := ⟨_, List.getElem?_eq_getElem (by rw [ringN_len HO.out.2.1.n1]; exact hlt)⟩
          have hns : (natI (ringN x.n x.last))[k]? = some (q : Int) := by rw [natI, List.getElem?_map, hq]; rfl
          obtain ⟨g2, o2, _, ea, _, _⟩ := HF.out.1.get hns
          subst ea
          have z0 := (tw_int HF.out.1 hns).2
          have hC := contains_any v5 hs (q : Int) w4 _ (H2.out.2.2.2.2.new HF.out.2).sl
          obtain ⟨cv, hcv⟩ : ∃ cv, cv = hs.contains (q : Int) := ⟨_, rfl⟩
          rw [← hcv] at hC
          have HQ2 : Hid (cv = hs.contains (q : Int) ∧ (ringN x.n x.last)[k]? = some q) := ⟨hcv, hq⟩
          clear hcv hq hns
          cases cv
          · go_wp2_with (go_at_call 60; ((with_reducible refine hC.mono ?_); rintro r w5 ⟨rfl, rfl⟩))
            go_roundw
            case rel =>
              refine ⟨k + 1, by omega, by go_num, by first | rfl | trivial, fun j p hj hp => ?_⟩
              rcases Nat.lt_or_ge j k with h | h
              · exact HN.out j p h hp
              · have : j = k := by omega
                subst this
                rw [HQ2.out.2] at hp
                injection hp with hp
                rw [← hp]
                exact HQ2.out.1.symm
            case measure => simp [intOf]; omega
          · have h4 := H2.out.2.1.kept HF.out.2 id
            have zf := h4.fro 5
            have z5 := h4.cell.2.2.2.2.2.1
            have HP4 : Hid (PxIs w4 px { ({ x with sender := s' } : PS) with count := cn } (.pointer (some ⟨wb, 0, none⟩)) ∧ WbIs w4 wb s' nx true T ∧ Rc w w4 ∧ Kept O w w4) := ⟨h4, H2.out.2.2.1.kept HF.out.2 id, (HF.out.2.block _ (lt_of_heap H2.out.2.2.2.1) id).trans H2.out.2.2.2.1, H2.out.1.trans HF.out.2.no⟩
            clear h4
            go_wp2_with (go_at_call 60; ((with_reducible refine hC.mono ?_); rintro r w5 ⟨rfl, rfl⟩))
            have hp5 : PxIs (w4.setCell ⟨px, 5, none⟩ (.int .i64 q)) px { ({ x with sender := s' } : PS) with count := cn, last := q } (.pointer (some ⟨wb, 0, none⟩)) := heap_setCell_same w4 px 5 _ 92 _ HP4.out.1
            have hw5 : WbIs (w4.setCell ⟨px, 5, none⟩ (.int .i64 q)) wb s' nx true T := (Below.heap_setCell _ _ _ _ hne).trans HP4.out.2.1
            have ht5 : Rc w (w4.setCell ⟨px, 5, none⟩ (.int .i64 q)) := (Below.heap_setCell _ _ _ _ (by simp only; omega)).trans HP4.out.2.2.1
            have hk5 : Kept O w (w4.setCell ⟨px, 5, none⟩ (.int .i64 q)) := HP4.out.2.2.2.setCell (p := ⟨px, 5, none⟩) (fun _ => HO.out.1) _
            obtain ⟨w5, hw5e⟩ : ∃ w5, w5 = w4.setCell ⟨px, 5, none⟩ (.int .i64 q) := ⟨_, rfl⟩
            rw [← hw5e] at hp5 hw5 ht5 hk5 ⊢
            clear hw5e z0 z5 zf
            have hfind := find_hit (p := fun p : Nat => hs.contains (p : Int)) HQ2.out.2 HQ2.out.1.symm HN.out
            have HR : Hid (pickI (({ x with sender := s' } : PS) : PS) hs = q) := by
              show pickI _ _ = _
              unfold pickI
              rw [show (ringN (({ x with sender := s' } : PS) : PS).n (({ x with sender := s' } : PS) : PS).last).find? (fun (p : Nat) => hs.contains (p : Int)) = some q from hfind]
            have u5 : w5.drew.cell? ⟨px, 5, none⟩ = some (.int .i64 q) := hp5.cell.2.2.2.2.2.1
            have v0 : w5.drew.cell? ⟨wb, 0, none⟩ = some (.int .u8 s') := hw5.cell.1
            have v1 : w5.drew.cell? ⟨wb, 1, none⟩ = some (.int .u64 nx) := hw5.cell.2.1
            have HT5 : Hid (w5.drew.heap[w.heap.size]? = some (.cells #[.int .u8 0, .int .u64 0] 40 (0, 0)) ∧ PxIs w5 px { ({ x with sender := s' } : PS) with count := cn, last := q } (.pointer (some ⟨wb, 0, none⟩)) ∧ WbIs w5 wb s' nx true T) := ⟨ht5, hp5, hw5⟩
            have t0 : w5.drew.cell? ⟨w.heap.size, 0, none⟩ = some (.int .u8 0) := by rw [World.cell?_drew, cell_of_row _ _ 0 _ _ _ ht5]; rfl
            have t1 : w5.drew.cell? ⟨w.heap.size, 1, none⟩ = some (.int .u64 0) := by rw [World.cell?_drew, cell_of_row _ _ 1 _ _ _ ht5]; rfl
            have tf0 : w5.drew.frozen? ⟨w.heap.size, 0, none⟩ = false := frozen_of_row w5 w.heap.size 0 _ _ ht5
            have tf1 : w5.drew.frozen? ⟨w.heap.size, 1, none⟩ = false := frozen_of_row w5 w.heap.size 1 _ _ ht5
            have HK5 : Hid (Kept O w w5) := hk5
            clear hp5 hw5 ht5 hk5 hfind
            refine wp_region_plan (fun k => k = w.heap.size) (.pur 0 (.pur 1 (.pur 2 (.pur 4 (.pur 5 (.pur 6 (.rd 3 (.rd 7 (.grow 8 (.pur 9 (.pur 10 .fin))))))))))) [] mixed (by kernel_rfl) ?_
            repeat ((first | refine pl_pur (by simp only [List.getD_cons_succ, List.getD_cons_zero]; rfl) _ (by rfl) (fun W => by go_simp; with_reducible rfl) ?_ | refine pl_rd (by simp only [List.getD_cons_succ, List.getD_cons_zero]; rfl) _ (by rfl) (fun W hW => by have hc := kcell hW; clear hW; go_simp; with_reducible rfl) ?_); simp only [Act.put, List.setIfInBounds_toArray, List.set_cons_zero, List.set_cons_succ])
            refine pl_loadw (by simp only [List.getD_cons_succ, List.getD_cons_zero]; rfl) (by rfl) (.tmp 133) 40 (by rfl) wb 0 (by rfl) _ agg40g (cells2 v0 v1) (by omega) ?_
            simp only [Act.put, List.setIfInBounds_toArray, List.set_cons_zero, List.set_cons_succ]
            refine pl_rd (by simp only [List.getD_cons_succ, List.getD_cons_zero]; rfl) _ (by rfl) (fun W hW => by have hc := hW.cell u5 (fun e => by have e : px = w.heap.size := e; omega); clear hW; go_simp; with_reducible rfl) ?_
            simp only [Act.put, List.setIfInBounds_toArray, List.set_cons_zero, List.set_cons_succ]
            refine pl_grow (by simp only [List.getD_cons_succ, List.getD_cons_zero]; rfl) ?_
            refine wpList_store_whole (by rfl) (.tmp 10) (.tmp 134) 40 (by rfl) w.heap.size 0 40 (by rfl) [.int .u8 s', .int .u64 nx] (by rfl) agg40g #[.int .u8 0, .int .u64 0] HT5.out.1 (by simp) (by simp [Value.oneCell']) ?_
            intro w6 HW6
            have n6 := new_rc HT5.out.1 HW6.out
            refine GPost.mk n6.2 ?_
            have hk6 : Kept O w w6 := HK5.out.drew.trans2 n6.2 (fun i hi e => absurd hi (by have e : i = w.heap.size := e; omega))
            have hs6 := hk6.size
            have H6 : Hid (w6.cell? ⟨w.heap.size, 0, none⟩ = some (.int .u8 s') ∧ w6.cell? ⟨w.heap.size, 1, none⟩ = some (.int .u64 nx) ∧ Kept O w w6 ∧ PullAt w6 px (fun k => O k ∨ New w w6 k) { ({ x with sender := s' } : PS) with want := some (s', nx, true, T), count := cn, last := q }) :=
              ⟨by rw [cell_of_row _ _ 0 _ _ _ n6.1]; rfl, by rw [cell_of_row _ _ 1 _ _ _ n6.1]; rfl, hk6,
                ⟨_, (PxIs.kept (w := w5.drew) HT5.out.2.1 n6.2 (fun e => by have e : px = w.heap.size := e; omega)), .inl HO.out.1, wb, rfl, hne, (by
                  have hw6 := (WbIs.kept (w := w5.drew) HT5.out.2.2 n6.2 (fun e => by have e : wb = w.heap.size := e; omega))
                  by_cases h : wb < w.heap.size
                  · exact .inl (HWB.out h)
                  · exact .inr ⟨by omega, lt_of_heap hw6⟩), (WbIs.kept (w := w5.drew) HT5.out.2.2 n6.2 (fun e => by have e : wb = w.heap.size := e; omega))⟩⟩
            clear n6 HW6 hk6 hs6
            repeat ((first | refine pl_pur (by simp only [List.getD_cons_succ, List.getD_cons_zero]; rfl) _ (by rfl) (fun W => by go_simp; with_reducible rfl) ?_ | refine pl_rd (by simp only [List.getD_cons_succ, List.getD_cons_zero]; rfl) _ (by rfl) (fun W hW => by have hc := kcell hW; clear hW; go_simp; with_reducible rfl) ?_); simp only [Act.put, List.setIfInBounds_toArray, List.set_cons_zero, List.set_cons_succ])
            refine pl_fin ?_
            go_wp2
            refine bodyPost_ret (res_cell_tmp2g (by rfl) _ _ w.heap.size 0 (by rfl) [.int .u8 s', .int .u64 nx] agg40g (cells2 H6.out.1 H6.out.2.1)) rfl ?_
            exact ⟨by rw [HR.out]; exact rfl, by rw [HR.out]; exact H6.out.2.2.2, H6.out.2.2.1⟩
        · exfalso
          obtain ⟨q, hq⟩ := HPK.out
          have h1 := List.find?_some hq
          obtain ⟨j, hj⟩ := List.mem_iff_getElem?.1 (List.mem_of_find?_eq_some hq)
          have h2 := HN.out j q (by have := (List.getElem?_eq_some_iff.1 hj).1; rw [ringN_len HO.out.2.1.n1] at this; omega) hj
          rw [h2] at h1
          cases h1
end Go.Proofs.Ytfnecdkfhackkaa
