/- IdentHas: rows have just those ids that they list: the walk of the law. -/
import Derived.Test.YtjokkmhndahnkaaILists
set_option linter.unusedVariables false
set_option linter.unusedSimpArgs false
namespace Go.Proofs.Ytjokkmhndahnkaa
open Go.RowKit

def IDAt (w : World) (N : Nat) (q : PID) : Prop := w.cell? ⟨N, 0, none⟩ = some (.int .u8 q.1) ∧ w.cell? ⟨N, 1, none⟩ = some (.int .u64 q.2)
theorem IDAt.new {w w' : World} {N : Nat} {q : PID} (h : IDAt w N q) (hk : Kept No w w') : IDAt w' N q := ⟨hk.cell h.1 id, hk.cell h.2 id⟩

set_option maxRecDepth 20000 in
set_option maxHeartbeats 2000000 in
theorem identHas_any (v : Value) (l : List PRun) (q1 q2 : Int) (h1 : InR .u8 q1) (h2 : InR .u64 q2) (w : World) (hl : Sl kRun w (Old w) v l) : Calls Try.prog 7 #[v, .agg #[.int .u8 q1, .int .u64 q2]] w fun e w' => e = .returned (.bool true) ∧ Kept No w w' := by
  have haw := fun W => awake_any W
  have hok : okID (q1, q2) := ⟨h1, h2⟩
  have k0 : Kept No w (w.alloc (.cells #[.int .u8 q1, .int .u64 q2] 33)) := (Kept.refl _ _).alloc _
  have hq0 : IDAt (w.alloc (.cells #[.int .u8 q1, .int .u64 q2] 33)) w.heap.size (q1, q2) := ⟨by simp, by simp⟩
  have hlw := hl.new k0
  have hR := rows_ref v l _ _ hlw
  obtain ⟨A, c, rfl, hc1, hc2⟩ := hl.slice
  simp only [maxLen] at hc2
  obtain ⟨n, hn⟩ : ∃ n, n = l.length := ⟨_, rfl⟩
  rw [← hn] at hR hlw hc1 hl ⊢
  have H0 : Hid (Kept No w (w.alloc (.cells #[.int .u8 q1, .int .u64 q2] 33)) ∧ IDAt (w.alloc (.cells #[.int .u8 q1, .int .u64 q2] 33)) w.heap.size (q1, q2) ∧ Sl kRun (w.alloc (.cells #[.int .u8 q1, .int .u64 q2] 33)) (Old w) (.slice A n c) l ∧ okID (q1, q2)) := ⟨k0, hq0, hlw, hok⟩
  clear hn hl hlw k0 hq0 hok h1 h2
  by_cases hbig : 30 < n
  · clear hR
    go_enter Try.func7, Try.ntmps7
    go_wp2_with (go_at_call 8; ((with_reducible refine (haw _).mono ?_); rintro e w1 ⟨rfl, hk1⟩))
    go_ret
    exact ⟨rfl, H0.out.1.trans hk1⟩
  · obtain ⟨r, hr⟩ : ∃ r, r = rowsI l := ⟨_, rfl⟩
    rw [← hr] at hR
    have HR : Hid (r = rowsI l) := hr
    clear hr
    cases r
    · go_enter Try.func7, Try.ntmps7
      go_wp2_with (first
        | (go_at_call 10; ((with_reducible refine hR.mono ?_); rintro e w2 ⟨rfl, hk2⟩))
        | (go_at_call 8; ((with_reducible refine (haw _).mono ?_); rintro e w1 ⟨rfl, hk1⟩)))
      go_ret
      exact ⟨rfl, (H0.out.1.trans hk2).trans hk1⟩
    · have hC := fun W (hk : Kept No (w.alloc (.cells #[.int .u8 q1, .int .u64 q2] 33)) W) => count_ref (.slice A n c) l W _ (H0.out.2.2.1.new hk)
      by_cases hcb : 300 < countI l
      · obtain ⟨C, hCC⟩ : ∃ C, C = countI l := ⟨_, rfl⟩
        rw [← hCC] at hC hcb
        clear hCC
        go_enter Try.func7, Try.ntmps7
        go_wp2_with (first
          | (go_at_call 10; ((with_reducible refine hR.mono ?_); rintro e w2 ⟨rfl, hk2⟩; have hC2 := hC _ hk2; clear hC hR))
          | (go_at_call 26; ((with_reducible refine hC2.mono ?_); rintro e w3 ⟨rfl, hk3⟩; clear hC2))
          | (go_at_call 8; ((with_reducible refine (haw _).mono ?_); rintro e w1 ⟨rfl, hk1⟩)))
        go_ret
        exact ⟨rfl, ((H0.out.1.trans hk2).trans hk3).trans hk1⟩
      · have hrun := rowsF_run HR.out.symm
        have hlen := listI_len hrun
        obtain ⟨L, hL⟩ : ∃ L, L = listI l := ⟨_, rfl⟩
        rw [← hL] at hlen
        obtain ⟨m, hm⟩ : ∃ m, m = L.length := ⟨_, rfl⟩
        rw [← hm] at hlen
        have hCm : countI l = m := by unfold countI at hcb ⊢; omega
        have hm300 : m ≤ 300 := by omega
        have hP : listP 300 l = L := by rw [list_all (by omega) hcb hrun, hL]
        have hwm : IntKind.u64.wrap (m : Int) = m := by rw [IntKind.wrap_u64]; omega
        rw [hCm] at hC hcb
        have HL : Hid (m = L.length ∧ (∀ a ∈ L, hasI a l = true) ∧ (∀ a ∈ L, may64 a = true) ∧ hasI (q1, q2) l = decide ((q1, q2) ∈ L) ∧ listP 300 l = L ∧ countI l = m) :=
          ⟨hm, fun a ha => (hasI_iff hrun a).2 (by rw [← hL]; exact ha), fun a ha => rowsF_may HR.out.symm a (by rw [← hL]; exact ha), by
            apply Bool.eq_iff_iff.2
            rw [hasI_iff hrun, ← hL]; simp, hP, hCm⟩
        clear hrun hlen hL hm hCm hP
        go_enter Try.func7, Try.ntmps7
        go_wp2_with (first
          | (go_at_call 10; ((with_reducible refine hR.mono ?_); rintro e w2 ⟨rfl, hk2⟩; have hC2 := hC _ hk2; have H2 : Hid (Kept No (w.alloc (.cells #[.int .u8 q1, .int .u64 q2] 33)) w2) := hk2; clear hC hR hk2))
          | (go_at_call 26; ((with_reducible refine hC2.mono ?_); rintro e w3 ⟨rfl, hk3⟩; have hI := list_op 300 (.slice A n c) l w3 _ ((H0.out.2.2.1.new H2.out).new hk3) (by omega); rw [HL.out.2.2.2.2.1] at hI; have H3 : Hid (Kept No (w.alloc (.cells #[.int .u8 q1, .int .u64 q2] 33)) w3) := H2.out.trans hk3; clear hC2 hk3))
          | (go_at_call 15; ((with_reducible refine hI.mono ?_); rintro e w4 ⟨v4, rfl, ht4, hf4, hk4⟩; obtain ⟨B, d, rfl, hd1, hd2⟩ := ht4.slice; have H4 : Hid (Kept No (w.alloc (.cells #[.int .u8 q1, .int .u64 q2] 33)) w4 ∧ TW kID 33 w4 No (.slice B L.length d) L) := ⟨H3.out.trans hk4, ht4⟩; rw [← HL.out.1] at H4 ⊢; have hd1' : m ≤ d := (by rw [HL.out.1]; exact hd1); clear hI ht4 hf4 hk4 hd1)))
        simp only [maxLen] at hd2
        go_loopw [6, 7] (fun b i wr => ∃ k : Nat, k ≤ m ∧ i = .int .i64 k ∧ b = .bool (decide ((q1, q2) ∈ L.take k)) ∧ Kept No w4 wr) (fun _ i _ => m - (intOf i).toNat)
        case atStart => exact ⟨0, Nat.zero_le _, by first | rfl | trivial, by simp, Kept.refl _ _⟩
        case round =>
          obtain ⟨k, hk, rfl, rfl, hke⟩ := hrel
          by_cases hlt : k < m
          · obtain ⟨x, hx⟩ : ∃ x, L[k]? = some x := ⟨_, List.getElem?_eq_getElem (by rw [← HL.out.1]; exact hlt)⟩
            obtain ⟨g, off, _, e, _, _⟩ := H4.out.2.get hx
            subst e
            have hxL := List.mem_of_getElem? hx
            obtain ⟨xok, xcell⟩ := tw_ids H4.out.2 hx
            obtain ⟨x1, x2⟩ := x
            simp only at xcell
            have HX : Hid ((∀ W, Kept No wr W → ∀ i u, [Value.int .u8 x1, .int .u64 x2][i]? = some u → W.cell? ⟨g, off + k * 2 + i, none⟩ = some u) ∧ L[k]? = some (x1, x2) ∧ Kept No w4 wr ∧ (∀ W, Kept No wr W → IDAt W w.heap.size (q1, q2))) := ⟨fun W hW i u hu => (hke.trans hW).cell (xcell i u hu) id, hx, hke, fun W hW => H0.out.2.1.new ((H4.out.1.trans hke).trans hW)⟩
            have hHas := fun W (hk : Kept No wr W) => has_op (x1, x2) (.slice A n c) l W _ (H0.out.2.2.1.new ((H4.out.1.trans hke).trans hk)) xok
            rw [HL.out.2.1 _ hxL] at hHas
            have xo := okID_iff.1 xok
            simp only at xo
            have hMay := fun W => may_op x1 x2 64 W xo.1 xo.2.1
            rw [show mayP 64 (x1, x2) = true from HL.out.2.2.1 _ hxL] at hMay
            simp only at hHas
            obtain ⟨bv, hbv⟩ : ∃ bv, bv = decide ((q1, q2) ∈ L.take k) := ⟨_, rfl⟩
            rw [← hbv]
            have hnext : decide ((q1, q2) ∈ L.take (k + 1)) = (bv || decide ((x1, x2) = (q1, q2))) := by
              rw [take_succ_snoc hx, hbv]
              apply Bool.eq_iff_iff.2
              simp only [List.mem_append, List.mem_singleton, decide_eq_true_eq, Bool.or_eq_true]
              exact or_congr Iff.rfl eq_comm
            have HN : Hid (decide ((q1, q2) ∈ L.take (k + 1)) = (bv || decide ((x1, x2) = (q1, q2)))) := hnext
            clear hbv hnext xo xok xcell hxL hx hke
            cases bv
            · obtain ⟨cv, hcv⟩ : ∃ cv, cv = decide ((x1, x2) = (q1, q2)) := ⟨_, rfl⟩
              have HV : Hid (cv = decide ((x1, x2) = (q1, q2))) := hcv
              clear hcv
              go_wp2
              refine wp_region_plan No (.pur 0 (.pur 1 (.pur 2 (.pur 3 (.pur 4 (.rd 5 (.rd 6 (.pur 7 (.pur 8 (.pur 9 .fin)))))))))) [] mixed (by kernel_rfl) ?_
              repeat ((first | refine pl_pur (by simp only [List.getD_cons_succ, List.getD_cons_zero]; rfl) _ (by rfl) (fun W => by go_simp; with_reducible rfl) ?_ | refine pl_rd (by simp only [List.getD_cons_succ, List.getD_cons_zero]; rfl) _ (by rfl) (fun W hW => by have hc := kcell hW; clear hW; go_simp; with_reducible rfl) ?_); simp only [Act.put, List.setIfInBounds_toArray, List.set_cons_zero, List.set_cons_succ])
              refine pl_loadw (by simp only [List.getD_cons_succ, List.getD_cons_zero]; rfl) (by rfl) (.tmp 34) 33 (by rfl) g (off + k * 2) (by rfl) [.int .u8 (x1, x2).1, .int .u64 (x1, x2).2] agg33 (HX.out.1 _ (Kept.refl _ _).drew) (fun h => h) ?_
              simp only [Act.put, List.setIfInBounds_toArray, List.set_cons_zero, List.set_cons_succ]
              refine pl_loadw (by simp only [List.getD_cons_succ, List.getD_cons_zero]; rfl) (by rfl) (.tmp 3) 33 (by rfl) w.heap.size 0 (by rfl) [.int .u8 (q1, q2).1, .int .u64 (q1, q2).2] agg33 (two_cells (HX.out.2.2.2 _ (Kept.refl _ _).drew).1 (HX.out.2.2.2 _ (Kept.refl _ _).drew).2) (fun h => h) ?_
              simp only [Act.put, List.setIfInBounds_toArray, List.set_cons_zero, List.set_cons_succ]
              refine pl_pur (by simp only [List.getD_cons_succ, List.getD_cons_zero]; rfl) _ (by rfl) (exec_eql33 (p := (x1, x2)) (q := (q1, q2)) HV.out (by rfl) (by rfl) (by rfl)) ?_
              simp only [Act.put, List.setIfInBounds_toArray, List.set_cons_zero, List.set_cons_succ]
              repeat ((first | refine pl_pur (by simp only [List.getD_cons_succ, List.getD_cons_zero]; rfl) _ (by rfl) (fun W => by go_simp; with_reducible rfl) ?_ | refine pl_rd (by simp only [List.getD_cons_succ, List.getD_cons_zero]; rfl) _ (by rfl) (fun W hW => by have hc := kcell hW; clear hW; go_simp; with_reducible rfl) ?_); simp only [Act.put, List.setIfInBounds_toArray, List.set_cons_zero, List.set_cons_succ])
              refine pl_fin ?_
              have z0 : wr.drew.cell? ⟨g, off + k * 2, none⟩ = some (.int .u8 x1) := HX.out.1 _ (Kept.refl _ _).drew 0 _ rfl
              have z1 : wr.drew.cell? ⟨g, off + k * 2 + 1, none⟩ = some (.int .u64 x2) := HX.out.1 _ (Kept.refl _ _).drew 1 _ rfl
              have hH2 := hHas _ (Kept.refl _ wr).drew
              clear hHas
              go_wp2_with (first
                | (go_at_call 23; ((with_reducible refine hH2.mono ?_); rintro e w5 ⟨rfl, hk5⟩; clear z0 z1; have z0 : w5.cell? ⟨g, off + k * 2, none⟩ = some (.int .u8 x1) := HX.out.1 _ ((Kept.refl _ _).drew.trans hk5) 0 _ rfl; have z1 : w5.cell? ⟨g, off + k * 2 + 1, none⟩ = some (.int .u64 x2) := HX.out.1 _ ((Kept.refl _ _).drew.trans hk5) 1 _ rfl))
                | (go_at_call 17; ((with_reducible refine (hMay _).mono ?_); rintro e w6 ⟨rfl, hk6⟩)))
              go_roundw
              case rel => exact ⟨k + 1, by omega, by go_num, by rw [HN.out, HV.out, Bool.false_or], ((HX.out.2.2.1.drew).trans hk5).trans hk6⟩
              case measure => simp [intOf]; omega
            · go_wp2
              refine wp_region_plan No (.pur 0 (.pur 1 (.pur 2 (.pur 3 (.pur 4 (.rd 5 (.rd 6 (.pur 7 (.pur 8 (.pur 9 .fin)))))))))) [] mixed (by kernel_rfl) ?_
              repeat ((first | refine pl_pur (by simp only [List.getD_cons_succ, List.getD_cons_zero]; rfl) _ (by rfl) (fun W => by go_simp; with_reducible rfl) ?_ | refine pl_rd (by simp only [List.getD_cons_succ, List.getD_cons_zero]; rfl) _ (by rfl) (fun W hW => by have hc := kcell hW; clear hW; go_simp; with_reducible rfl) ?_ | refine pl_skip (by simp only [List.getD_cons_succ, List.getD_cons_zero]; rfl) (by rfl) ?_ | refine pl_skip_rd (by simp only [List.getD_cons_succ, List.getD_cons_zero]; rfl) (by rfl) ?_ | refine pl_skip_grow (by simp only [List.getD_cons_succ, List.getD_cons_zero]; rfl) (by rfl) ?_ | refine pl_skip_act (by simp only [List.getD_cons_succ, List.getD_cons_zero]; rfl) (by rfl) ?_); simp only [Act.put, List.setIfInBounds_toArray, List.set_cons_zero, List.set_cons_succ])
              refine pl_fin ?_
              have z0 : wr.drew.cell? ⟨g, off + k * 2, none⟩ = some (.int .u8 x1) := HX.out.1 _ (Kept.refl _ _).drew 0 _ rfl
              have z1 : wr.drew.cell? ⟨g, off + k * 2 + 1, none⟩ = some (.int .u64 x2) := HX.out.1 _ (Kept.refl _ _).drew 1 _ rfl
              have hH2 := hHas _ (Kept.refl _ wr).drew
              clear hHas
              go_wp2_with (first
                | (go_at_call 23; ((with_reducible refine hH2.mono ?_); rintro e w5 ⟨rfl, hk5⟩; clear z0 z1; have z0 : w5.cell? ⟨g, off + k * 2, none⟩ = some (.int .u8 x1) := HX.out.1 _ ((Kept.refl _ _).drew.trans hk5) 0 _ rfl; have z1 : w5.cell? ⟨g, off + k * 2 + 1, none⟩ = some (.int .u64 x2) := HX.out.1 _ ((Kept.refl _ _).drew.trans hk5) 1 _ rfl))
                | (go_at_call 17; ((with_reducible refine (hMay _).mono ?_); rintro e w6 ⟨rfl, hk6⟩)))
              go_roundw
              case rel => exact ⟨k + 1, by omega, by go_num, by rw [HN.out, Bool.true_or], ((HX.out.2.2.1.drew).trans hk5).trans hk6⟩
              case measure => simp [intOf]; omega
          · have hkm : k = m := by omega
            subst hkm
            have hcount := count_op (.slice A n c) l wr _ (H0.out.2.2.1.new (H4.out.1.trans hke))
            rw [HL.out.2.2.2.2.2] at hcount
            have hHas := fun W (hk : Kept No wr W) => has_op (q1, q2) (.slice A n c) l W _ (H0.out.2.2.1.new ((H4.out.1.trans hke).trans hk)) H0.out.2.2.2
            have htk : L.take k = L := by rw [HL.out.1]; simp
            rw [htk]
            rw [HL.out.2.2.2.1] at hHas
            simp only at hHas
            obtain ⟨M, hM⟩ : ∃ M, M = decide ((q1, q2) ∈ L) := ⟨_, rfl⟩
            rw [← hM] at hHas ⊢
            have HX : Hid (Kept No w4 wr ∧ (∀ W, Kept No wr W → IDAt W w.heap.size (q1, q2))) := ⟨hke, fun W hW => H0.out.2.1.new ((H4.out.1.trans hke).trans hW)⟩
            clear hM htk hke
            cases M
            all_goals
              go_wp2_with (first
                | (go_at_call 25; ((with_reducible refine hcount.mono ?_); rintro e w5 ⟨rfl, hk5⟩; have z0 := (HX.out.2 w5 hk5).1; have z1 := (HX.out.2 w5 hk5).2; have hH2 := hHas w5 hk5; clear hHas hcount))
                | (go_at_call 23; ((with_reducible refine hH2.mono ?_); rintro e w6 ⟨rfl, hk6⟩; clear hH2 z0 z1))
                | (go_at_call 8; ((with_reducible refine (haw _).mono ?_); rintro e w8 ⟨rfl, hk8⟩)))
              go_ret
              exact ⟨rfl, ((((H0.out.1.trans H4.out.1).trans HX.out.1).trans hk5).trans hk6).trans hk8⟩
end Go.Proofs.Ytjokkmhndahnkaa
