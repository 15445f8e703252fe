/- The reference of the package matrix, seventh part: Holders. -/
import Derived.Test.YtfnecdkfhackkaaR18f
set_option linter.unusedVariables false
set_option linter.unusedSimpArgs false
namespace Go.Proofs.Ytfnecdkfhackkaa
open Go.RowKit

theorem sl_empty2 {α : Type} {d : Kd α} {w : World} {F : Nat → Prop} {A : Option Addr} {c : Nat} (hc : c ≤ maxLen) : Sl d w F (.slice A 0 c) [] :=
  ⟨[], ⟨A, c, rfl, Nat.zero_le _, hc, by simp, by simp, fun h => by simp at h⟩, Reps.none _ _⟩
set_option maxRecDepth 20000 in
set_option maxHeartbeats 2000000 in
theorem holders18_any (A : Option Addr) (n c : Nat) (rows : List Row) (w : World) (F : Nat → Prop) (h : Sl kRow w F (.slice A n c) rows) (hn : rows.length = n) (hpos : 1 ≤ n) (hn64 : n ≤ 64) (hw : Wide n rows) (f : Nat) (s : Int) (hf1 : (f : Int) ≤ 255) :
    Calls Try.prog 36 #[.agg #[.slice A n c], .agg #[.int .u8 f, .int .u64 s]] w fun e w' => ∃ v', e = .returned v' ∧ Sl (kI .i64) w' (New w w') v' (holdersM n rows f s) ∧ Kept No w w' := by
  have HR := rows_hid h
  have HN : Hid (rows.length = n ∧ Wide n rows) := ⟨hn, hw⟩
  have hmay := fun W => r3may_op f s n W (by omega) hf1
  obtain ⟨w0, hw0⟩ : ∃ w0, w0 = ((w.alloc (.cells #[.slice A n c] 48)).alloc (.cells #[.int .u8 f, .int .u64 s] 40)).alloc (.cells #[] 3) := ⟨_, rfl⟩
  have hk0 : Kept No w w0 := by rw [hw0]; exact (((Kept.refl _ _).alloc _).alloc _).alloc _
  have h2 := heap_alloc_new (w.alloc (.cells #[.slice A n c] 48)) (.cells #[.int .u8 f, .int .u64 s] 40)
  simp only [World.size_alloc] at h2
  have h1 : (w.alloc (.cells #[.slice A n c] 48)).cell? ⟨w.heap.size, 0, none⟩ = some (.slice A n c) := by simp
  have h3 := heap_alloc_new ((w.alloc (.cells #[.slice A n c] 48)).alloc (.cells #[.int .u8 f, .int .u64 s] 40)) (.cells #[] 3)
  simp only [World.size_alloc] at h3
  rw [← hw0] at h3
  have HB : Hid (∀ W, Kept No w0 W → Kept No w W ∧ W.cell? ⟨w.heap.size, 0, none⟩ = some (.slice A n c) ∧ W.cell? ⟨w.heap.size + 1, 0, none⟩ = some (.int .u8 f) ∧ W.cell? ⟨w.heap.size + 1, 1, none⟩ = some (.int .u64 s)) := by
    intro W hW
    have e1 : Kept No (w.alloc (.cells #[.slice A n c] 48)) w0 := by rw [hw0]; exact ((Kept.refl _ _).alloc _).alloc _
    have e2 : Kept No ((w.alloc (.cells #[.slice A n c] 48)).alloc (.cells #[.int .u8 f, .int .u64 s] 40)) w0 := by rw [hw0]; exact (Kept.refl _ _).alloc _
    exact ⟨hk0.trans hW, (e1.trans hW).cell h1 id, (e2.trans hW).cell (by rw [cell_of_row _ _ 0 _ _ _ h2]; rfl) id, (e2.trans hW).cell (by rw [cell_of_row _ _ 1 _ _ _ h2]; rfl) id⟩
  have HW0 : Hid (w0 = ((w.alloc (.cells #[.slice A n c] 48)).alloc (.cells #[.int .u8 f, .int .u64 s] 40)).alloc (.cells #[] 3)) := hw0
  have HE : Hid (TW (kI .i64) 3 w0 No (.slice (some ⟨w.heap.size + 1 + 1, 0, none⟩) 0 0) [] ∧ Kept No w w0) := ⟨TW.empty h3 (fun h => h), hk0⟩
  clear h hn hw hw0 hk0 h1 h2 h3
  cases hm : mayI f s n with
  | false =>
    rw [holdersM, hm]
    rw [hm] at hmay
    clear hm
    go_enter Try.func36, Try.ntmps36
    go_wp2_with (go_at_call 55; rw [← HW0.out]; ((with_reducible refine (hmay _).mono ?_); rintro e w2 ⟨rfl, hk2⟩))
    go_ret
    exact ⟨_, rfl, sl_empty2 (Nat.zero_le _), HE.out.2.trans hk2⟩
  | true =>
    rw [holdersM, hm]
    rw [hm] at hmay
    have hfn : f < n := by simp only [mayI, Bool.and_eq_true, decide_eq_true_eq] at hm; omega
    clear hm
    go_enter Try.func36, Try.ntmps36
    go_wp2_with (go_at_call 55; rw [← HW0.out]; ((with_reducible refine (hmay _).mono ?_); rintro e w2 ⟨rfl, hk2⟩; obtain ⟨_, c0, _, _⟩ := HB.out w2 hk2; have H2 : Hid (Kept No w0 w2) := hk2; clear hk2))
    go_loopw [5, 18] (fun o i wr => ∃ k : Nat, k ≤ n ∧ i = .int .i64 k ∧ TW (kI .i64) 3 wr No o (holdK rows f s k) ∧ Fresh w o ∧ Kept No w wr ∧ (wr.cell? ⟨w.heap.size, 0, none⟩ = some (.slice A n c) ∧ wr.cell? ⟨w.heap.size + 1, 0, none⟩ = some (.int .u8 f) ∧ wr.cell? ⟨w.heap.size + 1, 1, none⟩ = some (.int .u64 s)) ∧ ∀ j, o.ownBlock = some j → w.heap.size + 1 < j) (fun _ i _ => n - (intOf i).toNat)
    case atStart => exact ⟨0, Nat.zero_le _, rfl, HE.out.1.new H2.out, fun k hk => by simp only [Value.ownBlock, Option.some.injEq] at hk; omega, HE.out.2.trans H2.out, (HB.out _ H2.out).2, fun k hk => by simp only [Value.ownBlock, Option.some.injEq] at hk; omega⟩
    case round =>
      obtain ⟨k, hk, rfl, htw, hfr, hke, ⟨c0, i0, i1⟩, hob⟩ := hrel
      by_cases hlt : k < n
      · obtain ⟨r, hr⟩ : ∃ r, rows[k]? = some r := ⟨_, List.getElem?_eq_getElem (by rw [HN.out.1]; exact hlt)⟩
        obtain ⟨b, bo, Ad, cd, Ah, ch, rfl, hbl, e0, e1, e2, e3, hK⟩ := HR.out k r hr
        have d2 := hke.cell e2 id
        have d3 := hke.cell e3 id
        have hwr := (HN.out.2 r (List.mem_of_getElem? hr)).2
        obtain ⟨bd, od, rfl, hel⟩ : ∃ bd od, Ah = some ⟨bd, od, none⟩ ∧ w.cell? ⟨bd, od + f, none⟩ = some (.int .u64 (vat r.held f)) := by
          have hsl := (kRow_sl hK).2.1
          rcases hsl.ints with ⟨hz, _⟩ | ⟨_, _, bd, od, c', hv, _, _, _, hlt', hc⟩
          · rw [hz] at hwr; simp at hwr; omega
          · simp only [Value.slice.injEq] at hv
            have hx : r.held[f]? = some (vat r.held f) := by unfold vat; rw [List.getD_eq_getElem?_getD, List.getElem?_eq_getElem (by omega)]; rfl
            exact ⟨bd, od, hv.1, (hc f _ hx).1⟩
        have d4 := hke.cell hel id
        rw [hwr] at d2
        have hsn := holdK_succ rows f s k
        have hpk : holdsP rows f s k = (!r.gone && decide (s ≤ vat r.held f)) := by rw [holdsP, hr]
        rw [hpk] at hsn
        obtain ⟨hv, hhv⟩ : ∃ hv, hv = vat r.held f := ⟨_, rfl⟩
        rw [← hhv] at hsn d4
        have HQ : Hid (Fresh w u5 ∧ Kept No w wr ∧ TW (kI .i64) 3 wr No u5 (holdK rows f s k) ∧ (wr.cell? ⟨w.heap.size, 0, none⟩ = some (.slice (some ⟨b, bo, none⟩) n c) ∧ wr.cell? ⟨w.heap.size + 1, 0, none⟩ = some (.int .u8 f) ∧ wr.cell? ⟨w.heap.size + 1, 1, none⟩ = some (.int .u64 s)) ∧ ∀ j, u5.ownBlock = some j → w.heap.size + 1 < j) := ⟨hfr, hke, htw, ⟨c0, i0, i1⟩, hob⟩
        have HLk : Hid ((holdK rows f s k).length ≤ k) := holdK_len _ _ _ _
        have q0 : wr.drew.cell? ⟨w.heap.size, 0, none⟩ = some (.slice (some ⟨b, bo, none⟩) n c) := c0
        have q1 : wr.drew.cell? ⟨w.heap.size + 1, 0, none⟩ = some (.int .u8 f) := i0
        have q2 : wr.drew.cell? ⟨w.heap.size + 1, 1, none⟩ = some (.int .u64 s) := i1
        have q3 : wr.drew.cell? ⟨b, bo + k * 4 + 3, none⟩ = some (.bool r.gone) := d3
        have q4 : wr.drew.cell? ⟨b, bo + k * 4 + 2, none⟩ = some (.slice (some ⟨bd, od, none⟩) n ch) := d2
        have q5 : wr.drew.cell? ⟨bd, od + f, none⟩ = some (.int .u64 hv) := d4
        have hwrl : w.heap.size + 1 < wr.heap.size := World.block_lt_of_cell? wr _ i0
        clear hhv hpk hK hel hwr hfr hke htw hr e0 e1 e2 e3 c0 i0 i1 d2 d3 d4 hob
        cases hg : r.gone with
        | true =>
          rw [hg] at q3 hsn
          simp only [Bool.not_true, Bool.false_and, Bool.false_eq_true, if_false, List.append_nil] at hsn
          have HSN : Hid (holdK rows f s (k + 1) = holdK rows f s k) := hsn
          clear hsn hg
          go_wp2
          refine wp_region_plan No (.pur 0 (.pur 2 (.rd 1 (.pur 3 (.pur 4 (.rd 5 (.pur 6 (.pur 7 (.pur 8 (.pur 10 (.pur 14 (.pur 18 (.rd 9 (.pur 11 (.pur 12 (.rd 13 (.rd 15 (.pur 16 (.rd 17 (.rd 19 (.pur 20 (.pur 21 .fin)))))))))))))))))))))) [] mixed (by kernel_rfl) ?_
          repeat ((first | refine pl_pur (by simp only [List.getD_cons_succ, List.getD_cons_zero]; rfl) _ (by rfl) (fun W => by go_simp; with_reducible rfl) ?_ | refine pl_rd (by simp only [List.getD_cons_succ, List.getD_cons_zero]; rfl) _ (by rfl) (fun W hW => by have hc := hW.cell (q0) id; clear hW; go_simp; with_reducible rfl) ?_ | refine pl_rd (by simp only [List.getD_cons_succ, List.getD_cons_zero]; rfl) _ (by rfl) (fun W hW => by have hc := hW.cell (q1) id; clear hW; go_simp; with_reducible rfl) ?_ | refine pl_rd (by simp only [List.getD_cons_succ, List.getD_cons_zero]; rfl) _ (by rfl) (fun W hW => by have hc := hW.cell (q2) id; clear hW; go_simp; with_reducible rfl) ?_ | refine pl_rd (by simp only [List.getD_cons_succ, List.getD_cons_zero]; rfl) _ (by rfl) (fun W hW => by have hc := hW.cell (q3) id; clear hW; go_simp; with_reducible rfl) ?_ | refine pl_rd (by simp only [List.getD_cons_succ, List.getD_cons_zero]; rfl) _ (by rfl) (fun W hW => by have hc := hW.cell (q4) id; clear hW; go_simp; with_reducible rfl) ?_ | refine pl_rd (by simp only [List.getD_cons_succ, List.getD_cons_zero]; rfl) _ (by rfl) (fun W hW => by have hc := hW.cell (q5) id; clear hW; go_simp; with_reducible rfl) ?_ | refine pl_skip (by simp only [List.getD_cons_succ, List.getD_cons_zero]; rfl) (by rfl) ?_ | refine pl_skip_rd (by simp only [List.getD_cons_succ, List.getD_cons_zero]; rfl) (by rfl) ?_ | refine pl_skip_grow (by simp only [List.getD_cons_succ, List.getD_cons_zero]; rfl) (by rfl) ?_ | refine pl_skip_act (by simp only [List.getD_cons_succ, List.getD_cons_zero]; rfl) (by rfl) ?_); simp only [Act.put, List.setIfInBounds_toArray, List.set_cons_zero, List.set_cons_succ])
          refine pl_fin ?_
          go_wp2
          go_roundw
          case rel => exact ⟨k + 1, by omega, by go_num, by rw [HSN.out]; exact HQ.out.2.2.1.new (Kept.refl _ _).drew, HQ.out.1, HQ.out.2.1.drew, HQ.out.2.2.2.1, HQ.out.2.2.2.2⟩
          case measure => simp [intOf]; omega
        | false =>
          rw [hg] at q3 hsn
          simp only [Bool.not_false, Bool.true_and, decide_eq_true_eq] at hsn
          by_cases hs : s ≤ hv
          · rw [if_pos hs] at hsn
            have HSN : Hid (holdK rows f s (k + 1) = holdK rows f s k ++ [(k : Int)]) := hsn
            clear hsn hg
            go_wp2
            refine wp_region_plan No (.pur 0 (.pur 2 (.rd 1 (.pur 3 (.pur 4 (.rd 5 (.pur 6 (.pur 7 (.pur 8 (.pur 10 (.pur 14 (.pur 18 (.rd 9 (.pur 11 (.pur 12 (.rd 13 (.rd 15 (.pur 16 (.rd 17 (.rd 19 (.pur 20 (.pur 21 .fin)))))))))))))))))))))) [] mixed (by kernel_rfl) ?_
            repeat ((first | refine pl_pur (by simp only [List.getD_cons_succ, List.getD_cons_zero]; rfl) _ (by rfl) (fun W => by go_simp; with_reducible rfl) ?_ | refine pl_rd (by simp only [List.getD_cons_succ, List.getD_cons_zero]; rfl) _ (by rfl) (fun W hW => by have hc := hW.cell (q0) id; clear hW; go_simp; with_reducible rfl) ?_ | refine pl_rd (by simp only [List.getD_cons_succ, List.getD_cons_zero]; rfl) _ (by rfl) (fun W hW => by have hc := hW.cell (q1) id; clear hW; go_simp; with_reducible rfl) ?_ | refine pl_rd (by simp only [List.getD_cons_succ, List.getD_cons_zero]; rfl) _ (by rfl) (fun W hW => by have hc := hW.cell (q2) id; clear hW; go_simp; with_reducible rfl) ?_ | refine pl_rd (by simp only [List.getD_cons_succ, List.getD_cons_zero]; rfl) _ (by rfl) (fun W hW => by have hc := hW.cell (q3) id; clear hW; go_simp; with_reducible rfl) ?_ | refine pl_rd (by simp only [List.getD_cons_succ, List.getD_cons_zero]; rfl) _ (by rfl) (fun W hW => by have hc := hW.cell (q4) id; clear hW; go_simp; with_reducible rfl) ?_ | refine pl_rd (by simp only [List.getD_cons_succ, List.getD_cons_zero]; rfl) _ (by rfl) (fun W hW => by have hc := hW.cell (q5) id; clear hW; go_simp; with_reducible rfl) ?_ | refine pl_skip (by simp only [List.getD_cons_succ, List.getD_cons_zero]; rfl) (by rfl) ?_ | refine pl_skip_rd (by simp only [List.getD_cons_succ, List.getD_cons_zero]; rfl) (by rfl) ?_ | refine pl_skip_grow (by simp only [List.getD_cons_succ, List.getD_cons_zero]; rfl) (by rfl) ?_ | refine pl_skip_act (by simp only [List.getD_cons_succ, List.getD_cons_zero]; rfl) (by rfl) ?_); simp only [Act.put, List.setIfInBounds_toArray, List.set_cons_zero, List.set_cons_succ])
            refine pl_fin ?_
            obtain ⟨wd, hwd⟩ : ∃ wd, wd = wr.drew := ⟨_, rfl⟩
            have hsz : wd.heap.size = wr.heap.size := by rw [hwd]; rfl
            rw [← hwd] at q0 q1 q2 ⊢
            have HD : Hid (Kept No wr wd) := by show Kept _ _ _; rw [hwd]; exact (Kept.refl _ _).drew
            have hA : Kept No wr (wd.alloc (.cells #[.int .i64 k] 3)) := HD.out.alloc _
            have HA : Hid (Kept No wr (wd.alloc (.cells #[.int .i64 k] 3))) := hA
            have HSZ : Hid (wd.heap.size = wr.heap.size) := hsz
            clear hA hwd hsz
            have hki : ∀ x ∈ [(k : Int)], InR .i64 x := by simp [inr_i64]; omega
            have HKI : Hid (∀ x ∈ [(k : Int)], InR .i64 x) := hki
            clear hki
            go_wp2_with (at_builtin; go_must (refine wpList_append_tw (d := kI .i64) (G := No) (F := fun k' => k' = wd.heap.size) rfl (.tmp 43) (.tmp 45) 42 rfl 3 (.int .i64 0) 8 Try.underlying42 info_i64 rfl _ _ 1 _ [(k : Int)] [.int .i64 k] rfl (HQ.out.2.2.1.new HA.out) rfl (src_new rfl) (reps_ints HKI.out) rfl (fun _ h => h.elim) ?_ ?_ ?_))
            · have := HLk.out; simp only [maxLen]; omega
            · have := HLk.out; omega
            · intro v' w' htw2 hk3 hb2
              have hb2' : v'.ownBlock = u5.ownBlock ∨ v'.ownBlock = some (wd.alloc (.cells #[.int .i64 k] 3)).heap.size := by simpa using hb2
              have hf1 := HQ.out.1.next (v' := v') (w := wd.alloc (.cells #[.int .i64 k] 3)) (Nat.le_trans HQ.out.2.1.size HA.out.size) hb2'
              have hke2 := (HQ.out.2.1.trans HA.out).fresh hk3 HQ.out.1
              have hkc : ∀ {bb j : Nat} {u : Value}, bb ≤ w.heap.size + 1 → wr.cell? ⟨bb, j, none⟩ = some u → w'.cell? ⟨bb, j, none⟩ = some u := fun hbb hcc => hk3.cell (HA.out.cell hcc id) (fun e => by have e := HQ.out.2.2.2.2 _ e; simp only at e; omega)
              have hob : ∀ j, v'.ownBlock = some j → w.heap.size + 1 < j := fun j hj => by
                rcases hb2' with e | e
                · exact HQ.out.2.2.2.2 j (e ▸ hj)
                · rw [e] at hj; simp only [Option.some.injEq, World.size_alloc] at hj; have := HSZ.out; omega
              rw [← HSN.out] at htw2
              have HF : Hid (TW (kI .i64) 3 w' No v' (holdK rows f s (k + 1)) ∧ Fresh w v' ∧ Kept No w w' ∧ (w'.cell? ⟨w.heap.size, 0, none⟩ = some (.slice (some ⟨b, bo, none⟩) n c) ∧ w'.cell? ⟨w.heap.size + 1, 0, none⟩ = some (.int .u8 f) ∧ w'.cell? ⟨w.heap.size + 1, 1, none⟩ = some (.int .u64 s)) ∧ ∀ j, v'.ownBlock = some j → w.heap.size + 1 < j) := ⟨htw2, hf1, hke2, ⟨hkc (by omega) HQ.out.2.2.2.1.1, hkc (by omega) HQ.out.2.2.2.1.2.1, hkc (by omega) HQ.out.2.2.2.1.2.2⟩, hob⟩
              clear hk3 hb2 hb2' hf1 hke2 hkc hob htw2
              go_wp2
              go_roundw
              case rel => exact ⟨k + 1, by omega, by go_num, HF.out⟩
              case measure => simp [intOf]; omega
          · rw [if_neg hs] at hsn
            have HSN : Hid (holdK rows f s (k + 1) = holdK rows f s k) := by show _ = _; simpa using hsn
            clear hsn hg
            go_wp2
            refine wp_region_plan No (.pur 0 (.pur 2 (.rd 1 (.pur 3 (.pur 4 (.rd 5 (.pur 6 (.pur 7 (.pur 8 (.pur 10 (.pur 14 (.pur 18 (.rd 9 (.pur 11 (.pur 12 (.rd 13 (.rd 15 (.pur 16 (.rd 17 (.rd 19 (.pur 20 (.pur 21 .fin)))))))))))))))))))))) [] mixed (by kernel_rfl) ?_
            repeat ((first | refine pl_pur (by simp only [List.getD_cons_succ, List.getD_cons_zero]; rfl) _ (by rfl) (fun W => by go_simp; with_reducible rfl) ?_ | refine pl_rd (by simp only [List.getD_cons_succ, List.getD_cons_zero]; rfl) _ (by rfl) (fun W hW => by have hc := hW.cell (q0) id; clear hW; go_simp; with_reducible rfl) ?_ | refine pl_rd (by simp only [List.getD_cons_succ, List.getD_cons_zero]; rfl) _ (by rfl) (fun W hW => by have hc := hW.cell (q1) id; clear hW; go_simp; with_reducible rfl) ?_ | refine pl_rd (by simp only [List.getD_cons_succ, List.getD_cons_zero]; rfl) _ (by rfl) (fun W hW => by have hc := hW.cell (q2) id; clear hW; go_simp; with_reducible rfl) ?_ | refine pl_rd (by simp only [List.getD_cons_succ, List.getD_cons_zero]; rfl) _ (by rfl) (fun W hW => by have hc := hW.cell (q3) id; clear hW; go_simp; with_reducible rfl) ?_ | refine pl_rd (by simp only [List.getD_cons_succ, List.getD_cons_zero]; rfl) _ (by rfl) (fun W hW => by have hc := hW.cell (q4) id; clear hW; go_simp; with_reducible rfl) ?_ | refine pl_rd (by simp only [List.getD_cons_succ, List.getD_cons_zero]; rfl) _ (by rfl) (fun W hW => by have hc := hW.cell (q5) id; clear hW; go_simp; with_reducible rfl) ?_ | refine pl_skip (by simp only [List.getD_cons_succ, List.getD_cons_zero]; rfl) (by rfl) ?_ | refine pl_skip_rd (by simp only [List.getD_cons_succ, List.getD_cons_zero]; rfl) (by rfl) ?_ | refine pl_skip_grow (by simp only [List.getD_cons_succ, List.getD_cons_zero]; rfl) (by rfl) ?_ | refine pl_skip_act (by simp only [List.getD_cons_succ, List.getD_cons_zero]; rfl) (by rfl) ?_); simp only [Act.put, List.setIfInBounds_toArray, List.set_cons_zero, List.set_cons_succ])
            refine pl_fin ?_
            go_wp2
            go_roundw
            case rel => exact ⟨k + 1, by omega, by go_num, by rw [HSN.out]; exact HQ.out.2.2.1.new (Kept.refl _ _).drew, HQ.out.1, HQ.out.2.1.drew, HQ.out.2.2.2.1, HQ.out.2.2.2.2⟩
            case measure => simp [intOf]; omega
      · go_wp2
        go_ret
        have : k = n := by omega
        subst this
        exact ⟨_, rfl, htw.slNew hfr, hke⟩
end Go.Proofs.Ytfnecdkfhackkaa
