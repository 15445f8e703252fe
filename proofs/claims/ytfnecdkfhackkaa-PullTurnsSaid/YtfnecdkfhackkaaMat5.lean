/- The package matrix, fifth part: Most, Holders. -/
import Derived.Test.YtfnecdkfhackkaaMat4
set_option linter.unusedVariables false
set_option linter.unusedSimpArgs false
namespace Go.Proofs.Ytfnecdkfhackkaa
open Go.RowKit

/-- What any has, or had. -/
def mostM (rows : List Row) : List Int := vfold max (rows.map Row.held)
set_option maxHeartbeats 1000000 in
theorem most_any {b rb n : Nat} {rows : List Row} {G : Nat → Prop} (w : World) (h : MatAt w b rb n rows G) :
    Calls Try.prog 20 #[.pointer (some ⟨b, 0, none⟩)] w fun e w' => ∃ v', e = .returned v' ∧ Sl (kI .u64) w' (New w w') v' (mostM rows) ∧ Kept No w w' := by
  have hc := h.c0
  have hle := h.le
  have hb := h.lt.1
  have HH : Hid (MatAt w b rb n rows G) := h
  obtain ⟨D, hD⟩ : ∃ D, D = rows.map Row.held := ⟨_, rfl⟩
  have HD : Hid (D = rows.map Row.held) := hD
  have HDm : Hid (D.length = n) := by show _ = _; rw [hD, List.length_map]; exact h.len
  clear h hD
  go_enter Try.func20, Try.ntmps20
  go_wp2
  go_loopw [3, 13] (fun o i wr => ∃ k : Nat, k ≤ n ∧ i = .int .i64 k ∧ TW (kSl (kI .u64)) 27 wr G o (D.take k) ∧ Fresh w o ∧ Kept No w wr) (fun _ i _ => n - (intOf i).toNat)
  case atStart => exact ⟨0, Nat.zero_le _, rfl, TW.nil _ _ _ _, Fresh.nil _, Kept.refl _ _⟩
  case round =>
    obtain ⟨k, hk, rfl, htw, hfr, hke⟩ := hrel
    by_cases hlt : k < n
    · obtain ⟨r, hr⟩ : ∃ r, rows[k]? = some r := ⟨_, List.getElem?_eq_getElem (by rw [HH.out.len]; exact hlt)⟩
      obtain ⟨vd, vh, d0, d1, d2, d3, _, hsd, hsh⟩ := (HH.out.new hke).at_ hr
      obtain ⟨x0, y0, z0, rfl, _⟩ : ∃ A n c, vd = .slice A n c ∧ True := by obtain ⟨A, c, h, _⟩ := hsd.slice; exact ⟨A, _, c, h, trivial⟩
      obtain ⟨x1, y1, z1, rfl, _⟩ : ∃ A n c, vh = .slice A n c ∧ True := by obtain ⟨A, c, h, _⟩ := hsh.slice; exact ⟨A, _, c, h, trivial⟩
      have hsn : D.take (k + 1) = D.take k ++ [r.held] := by rw [HD.out]; exact snoc_map _ _ _ _ hr
      have hlen : (D.take k).length = k := by rw [List.length_take, HDm.out]; omega
      have HLk : Hid ((D.take k).length = k) := hlen
      have HQ : Hid (D.take (k + 1) = D.take k ++ [r.held] ∧ Sl (kI .u64) wr G (.slice x1 y1 z1) r.held ∧ Fresh w u3 ∧ Kept No w wr ∧ TW (kSl (kI .u64)) 27 wr G u3 (D.take k)) := ⟨hsn, hsh, hfr, hke, htw⟩
      clear hsd hsh hsn hfr hke htw hr hlen
      have hF := HH.out.glt
      have HF : Hid (∀ k, G k → k < wr.heap.size) := fun k hk => Nat.lt_of_lt_of_le (hF k hk) HQ.out.2.2.2.1.size
      clear hF
      have hkW : Kept No wr ((wr.alloc (.cells #[.int .u64 r.inst, .slice x0 y0 z0, .slice x1 y1 z1, .bool r.gone] 80)).alloc (.cells #[.slice x1 y1 z1] 27)) := ((Kept.refl _ _).alloc _).alloc _
      have HW : Hid (Kept No wr ((wr.alloc (.cells #[.int .u64 r.inst, .slice x0 y0 z0, .slice x1 y1 z1, .bool r.gone] 80)).alloc (.cells #[.slice x1 y1 z1] 27))) := hkW
      clear hkW
      go_wp2_with (at_builtin; go_must (refine wpList_append_tw (d := kSl (kI .u64)) (G := G) (F := fun k' => k' = wr.heap.size + 1) rfl (.tmp 17) (.tmp 20) 84 rfl 27 (.slice none 0 0) 24 Try.underlying84 info_sl rfl _ _ 1 _ [r.held] [.slice x1 y1 z1] rfl (HQ.out.2.2.2.2.new HW.out) rfl (src_newN (w := wr.alloc (.cells #[.int .u64 r.inst, .slice x0 y0 z0, .slice x1 y1 z1, .bool r.gone] 80)) (by simp) rfl) (Reps.single ⟨_, rfl, HQ.out.2.1.new HW.out⟩ rfl) rfl (fun k hk => Nat.lt_of_lt_of_le (HF.out k hk) HW.out.size) ?_ ?_ ?_))
      · rw [HLk.out]; simp only [maxLen]; omega
      · rw [HLk.out]; omega
      · intro v' w' htw2 hk2 hb2
        have hfr2 := HQ.out.2.2.1.next (v' := v') (w := (wr.alloc (.cells #[.int .u64 r.inst, .slice x0 y0 z0, .slice x1 y1 z1, .bool r.gone] 80)).alloc (.cells #[.slice x1 y1 z1] 27)) (Nat.le_trans HQ.out.2.2.2.1.size HW.out.size) (by simpa using hb2)
        have hke2 := (HQ.out.2.2.2.1.trans HW.out).fresh hk2 HQ.out.2.2.1
        rw [← HQ.out.1] at htw2
        clear hk2 hb2 d0 d1 d2 d3
        go_wp2
        go_roundw
        case rel => exact ⟨k + 1, by omega, by go_num, htw2, hfr2, hke2⟩
        case measure => simp [intOf]; omega
    · have hkm : k = n := by omega
      subst hkm
      have htk : D.take k = D := List.take_of_length_le (by rw [HDm.out]; exact Nat.le_refl _)
      rw [htk] at htw
      clear htk
      have hsl := htw.sl
      obtain ⟨A3, c3, rfl, hl3, hm3⟩ := hsl.slice
      rw [HDm.out] at hsl hl3 ⊢
      have HK : Hid (Kept No w wr) := hke
      have hwf := fun hr => vecmax_any _ D wr _ hsl hr
      have HWF : Hid (∀ a ∈ D, a.length ≤ 17592186044415) := by
        show ∀ a ∈ D, a.length ≤ 17592186044415
        intro a ha
        rw [HD.out, List.mem_map] at ha
        obtain ⟨r, hr, rfl⟩ := ha
        have := (HH.out.wide r hr).2
        rw [this]; omega
      have hvm := hwf HWF.out
      have HST : Hid (mostM rows = vfold max D) := by show _ = _; rw [mostM, HD.out]
      clear hwf htw hfr hke hsl hc
      go_wp2_with (go_at_call 49; ((with_reducible refine hvm.mono ?_); rintro e w2 ⟨v2, rfl, ht2, hf2, hk2⟩))
      go_ret
      refine ⟨_, rfl, ?_, HK.out.trans hk2⟩
      rw [HST.out]
      exact (ht2.slNew hf2).mono fun k hk _ => ⟨Nat.le_trans HK.out.size hk.1, hk.2⟩

/-- Who holds message s of process f. -/
def holdsP (rows : List Row) (f : Nat) (s : Int) (i : Nat) : Bool := match rows[i]? with
  | some r => !r.gone && decide (s ≤ vat r.held f)
  | none => false
def holdK (rows : List Row) (f : Nat) (s : Int) (k : Nat) : List Int := ((List.range k).filter (holdsP rows f s)).map Int.ofNat
theorem holdK_succ (rows : List Row) (f : Nat) (s : Int) (k : Nat) : holdK rows f s (k + 1) = holdK rows f s k ++ if holdsP rows f s k then [(k : Int)] else [] := by
  rw [holdK, List.range_succ, List.filter_append, List.map_append]
  by_cases h : holdsP rows f s k <;> simp [holdK, h]
theorem holdK_len (rows : List Row) (f : Nat) (s : Int) (k : Nat) : (holdK rows f s k).length ≤ k := by
  have := List.length_filter_le (holdsP rows f s) (List.range k)
  simpa [holdK] using this
def holdersM (n : Nat) (rows : List Row) (f s : Int) : List Int := if mayI f s n then holdK rows f.toNat s n else []
theorem info_i64 : (Try.prog.info? 3).map (fun i => (i.zero, i.size, i.bytes)) = some (some (.int .i64 0), 1, 8) := by kernel_rfl
set_option maxHeartbeats 1000000 in
theorem holders_any {b rb n : Nat} {rows : List Row} {G : Nat → Prop} (w : World) (h : MatAt w b rb n rows G) (f : Nat) (s : Int) (hf1 : (f : Int) ≤ 255) :
    Calls Try.prog 26 #[.pointer (some ⟨b, 0, none⟩), .agg #[.int .u8 f, .int .u64 s]] w fun e w' => ∃ v', e = .returned v' ∧ Sl (kI .i64) w' (New w w') v' (holdersM n rows f s) ∧ Kept No w w' := by
  have hc := h.c0
  have hle := h.le
  have hb := h.lt.1
  have HH : Hid (MatAt w b rb n rows G) := h
  have hmay := fun W => may_op f s n W (by omega) hf1
  clear h
  cases hm : mayI f s n with
  | false =>
    rw [holdersM, hm]
    rw [hm] at hmay
    clear hm
    go_enter Try.func26, Try.ntmps26
    go_wp2
    refine wp_region_plan No (.pur 0 (.pur 1 (.pur 2 (.pur 4 (.pur 5 (.pur 6 (.rd 3 (.rd 7 (.rd 8 (.grow 9 (.pur 10 (.pur 11 .fin)))))))))))) [] mixed (by kernel_rfl) ?_
    repeat ((first | refine pl_pur (by simp only [List.getD_cons_succ, List.getD_cons_zero]; rfl) _ (by rfl) (fun W => by go_simp; with_reducible rfl) ?_ | refine pl_rd (by simp only [List.getD_cons_succ, List.getD_cons_zero]; rfl) _ (by rfl) (fun W hW => by have hc := kcell hW; clear hW; go_simp; with_reducible rfl) ?_ | refine pl_skip (by simp only [List.getD_cons_succ, List.getD_cons_zero]; rfl) (by rfl) ?_ | refine pl_skip_rd (by simp only [List.getD_cons_succ, List.getD_cons_zero]; rfl) (by rfl) ?_ | refine pl_skip_grow (by simp only [List.getD_cons_succ, List.getD_cons_zero]; rfl) (by rfl) ?_ | refine pl_skip_act (by simp only [List.getD_cons_succ, List.getD_cons_zero]; rfl) (by rfl) ?_); simp only [Act.put, List.setIfInBounds_toArray, List.set_cons_zero, List.set_cons_succ])
    refine pl_grow (by simp only [List.getD_cons_succ, List.getD_cons_zero]; rfl) ?_
    go_wp2_with (go_at_call 51; ((with_reducible refine (hmay _).mono ?_); rintro e w2 ⟨rfl, hk2⟩))
    refine GPost.mk hk2 ?_
    repeat ((first | refine pl_pur (by simp only [List.getD_cons_succ, List.getD_cons_zero]; rfl) _ (by rfl) (fun W => by go_simp; with_reducible rfl) ?_ | refine pl_rd (by simp only [List.getD_cons_succ, List.getD_cons_zero]; rfl) _ (by rfl) (fun W hW => by have hc := kcell hW; clear hW; go_simp; with_reducible rfl) ?_ | refine pl_skip (by simp only [List.getD_cons_succ, List.getD_cons_zero]; rfl) (by rfl) ?_ | refine pl_skip_rd (by simp only [List.getD_cons_succ, List.getD_cons_zero]; rfl) (by rfl) ?_ | refine pl_skip_grow (by simp only [List.getD_cons_succ, List.getD_cons_zero]; rfl) (by rfl) ?_ | refine pl_skip_act (by simp only [List.getD_cons_succ, List.getD_cons_zero]; rfl) (by rfl) ?_); simp only [Act.put, List.setIfInBounds_toArray, List.set_cons_zero, List.set_cons_succ])
    refine pl_fin ?_
    go_wp2
    go_ret
    exact ⟨_, rfl, Sl.nil _ _ _, (((Kept.refl _ _).alloc _).drew).trans hk2⟩
  | true =>
    rw [holdersM, hm]
    rw [hm] at hmay
    have hfn : f < n := by simp only [mayI, Bool.and_eq_true, decide_eq_true_eq] at hm; omega
    clear hm
    go_enter Try.func26, Try.ntmps26
    go_wp2
    refine wp_region_plan No (.pur 0 (.pur 1 (.pur 2 (.pur 4 (.pur 5 (.pur 6 (.rd 3 (.rd 7 (.rd 8 (.grow 9 (.pur 10 (.pur 11 .fin)))))))))))) [] mixed (by kernel_rfl) ?_
    repeat ((first | refine pl_pur (by simp only [List.getD_cons_succ, List.getD_cons_zero]; rfl) _ (by rfl) (fun W => by go_simp; with_reducible rfl) ?_ | refine pl_rd (by simp only [List.getD_cons_succ, List.getD_cons_zero]; rfl) _ (by rfl) (fun W hW => by have hc := kcell hW; clear hW; go_simp; with_reducible rfl) ?_ | refine pl_skip (by simp only [List.getD_cons_succ, List.getD_cons_zero]; rfl) (by rfl) ?_ | refine pl_skip_rd (by simp only [List.getD_cons_succ, List.getD_cons_zero]; rfl) (by rfl) ?_ | refine pl_skip_grow (by simp only [List.getD_cons_succ, List.getD_cons_zero]; rfl) (by rfl) ?_ | refine pl_skip_act (by simp only [List.getD_cons_succ, List.getD_cons_zero]; rfl) (by rfl) ?_); simp only [Act.put, List.setIfInBounds_toArray, List.set_cons_zero, List.set_cons_succ])
    refine pl_grow (by simp only [List.getD_cons_succ, List.getD_cons_zero]; rfl) ?_
    go_wp2_with (go_at_call 51; ((with_reducible refine (hmay _).mono ?_); rintro e w2 ⟨rfl, hk2⟩))
    refine GPost.mk hk2 ?_
    repeat ((first | refine pl_pur (by simp only [List.getD_cons_succ, List.getD_cons_zero]; rfl) _ (by rfl) (fun W => by go_simp; with_reducible rfl) ?_ | refine pl_rd (by simp only [List.getD_cons_succ, List.getD_cons_zero]; rfl) _ (by rfl) (fun W hW => by have hc := kcell hW; clear hW; go_simp; with_reducible rfl) ?_ | refine pl_skip (by simp only [List.getD_cons_succ, List.getD_cons_zero]; rfl) (by rfl) ?_ | refine pl_skip_rd (by simp only [List.getD_cons_succ, List.getD_cons_zero]; rfl) (by rfl) ?_ | refine pl_skip_grow (by simp only [List.getD_cons_succ, List.getD_cons_zero]; rfl) (by rfl) ?_ | refine pl_skip_act (by simp only [List.getD_cons_succ, List.getD_cons_zero]; rfl) (by rfl) ?_); simp only [Act.put, List.setIfInBounds_toArray, List.set_cons_zero, List.set_cons_succ])
    refine pl_fin ?_
    have e0 : w2.cell? ⟨w.heap.size, 0, none⟩ = some (.int .u8 f) := hk2.cell (by rw [World.cell?_drew]; simp) id
    have e1 : w2.cell? ⟨w.heap.size, 1, none⟩ = some (.int .u64 s) := hk2.cell (by rw [World.cell?_drew]; simp) id
    have HK2 : Hid (Kept No w w2) := (((Kept.refl _ _).alloc _).drew).trans hk2
    have hcc := HK2.out.cell hc id
    clear hk2 hc
    have hwlt : w.heap.size < w2.heap.size := World.block_lt_of_cell? w2 _ e0
    go_wp2
    go_loopw [5, 26] (fun o i wr => ∃ k : Nat, k ≤ n ∧ i = .int .i64 k ∧ TW (kI .i64) 3 wr No o (holdK rows f s k) ∧ Fresh w o ∧ Fresh w2 o ∧ Kept No w2 wr) (fun _ i _ => n - (intOf i).toNat)
    case atStart => exact ⟨0, Nat.zero_le _, rfl, TW.nil _ _ _ _, Fresh.nil _, Fresh.nil _, Kept.refl _ _⟩
    case round =>
      obtain ⟨k, hk, rfl, htw, hfr, hfr2, hke⟩ := hrel
      by_cases hlt : k < n
      · obtain ⟨r, hr⟩ : ∃ r, rows[k]? = some r := ⟨_, List.getElem?_eq_getElem (by rw [HH.out.len]; exact hlt)⟩
        have hke0 := HK2.out.trans hke
        obtain ⟨vd, vh, d0, d1, d2, d3, _, hsd, hsh⟩ := (HH.out.new hke0).at_ hr
        have hwide := (HH.out.wide r (List.mem_of_getElem? hr)).2
        obtain ⟨x0, y0, z0, rfl, _⟩ : ∃ A n c, vd = .slice A n c ∧ True := by obtain ⟨A, c, h, _⟩ := hsd.slice; exact ⟨A, _, c, h, trivial⟩
        have g0 := hke.cell e0 id
        have g1 := hke.cell e1 id
        have hwr : w.heap.size < wr.heap.size := World.block_lt_of_cell? wr _ g0
        have hsn := holdK_succ rows f s k
        have hpk : holdsP rows f s k = (!r.gone && decide (s ≤ vat r.held f)) := by rw [holdsP, hr]
        rw [hpk] at hsn
        have HQ : Hid (Fresh w u5 ∧ Fresh w2 u5 ∧ Kept No w2 wr ∧ TW (kI .i64) 3 wr No u5 (holdK rows f s k)) := ⟨hfr, hfr2, hke, htw⟩
        rcases hsh.ints with ⟨hz, _⟩ | ⟨_, _, bh, oh, ch, rfl, hh2, hh3, _, hbh, hcell⟩
        · rw [hz] at hwide; simp at hwide; omega
        have hel := (hcell f (vat r.held f) (by unfold vat; rw [List.getD_eq_getElem?_getD, List.getElem?_eq_getElem (by omega)]; rfl)).1
        rw [hwide] at d2 hh2
        have HLk : Hid ((holdK rows f s k).length ≤ k) := holdK_len _ _ _ _
        obtain ⟨hv, hhv⟩ : ∃ hv, hv = vat r.held f := ⟨_, rfl⟩
        rw [← hhv] at hsn hel
        clear hhv hpk hcell hsd hsh hwide hfr hfr2 hke hke0 htw hr hmay
        by_cases hg : r.gone = true
        · rw [hg] at d3 hsn
          simp only [Bool.not_true, Bool.false_and, Bool.false_eq_true, if_false, List.append_nil] at hsn
          have HSN : Hid (holdK rows f s (k + 1) = holdK rows f s k) := hsn
          clear hsn
          go_wp2
          refine wp_region_plan No (.pur 0 (.rd 1 (.pur 2 (.pur 3 (.pur 4 (.pur 6 (.pur 10 (.rd 5 (.rd 7 (.pur 8 (.rd 9 (.rd 11 (.pur 12 (.pur 13 .fin)))))))))))))) [] mixed (by kernel_rfl) ?_
          repeat ((first | refine pl_pur (by simp only [List.getD_cons_succ, List.getD_cons_zero]; rfl) _ (by rfl) (fun W => by go_simp; with_reducible rfl) ?_ | refine pl_rd (by simp only [List.getD_cons_succ, List.getD_cons_zero]; rfl) _ (by rfl) (fun W hW => by have hc := kcell hW; clear hW; go_simp; with_reducible rfl) ?_ | refine pl_skip (by simp only [List.getD_cons_succ, List.getD_cons_zero]; rfl) (by rfl) ?_ | refine pl_skip_rd (by simp only [List.getD_cons_succ, List.getD_cons_zero]; rfl) (by rfl) ?_ | refine pl_skip_grow (by simp only [List.getD_cons_succ, List.getD_cons_zero]; rfl) (by rfl) ?_ | refine pl_skip_act (by simp only [List.getD_cons_succ, List.getD_cons_zero]; rfl) (by rfl) ?_); simp only [Act.put, List.setIfInBounds_toArray, List.set_cons_zero, List.set_cons_succ])
          refine pl_fin ?_
          go_wp2
          go_roundw
          case rel => exact ⟨k + 1, by omega, by go_num, by rw [HSN.out]; exact HQ.out.2.2.2.new (((Kept.refl _ _).alloc _).drew), HQ.out.1, HQ.out.2.1, (HQ.out.2.2.1.alloc _).drew⟩
          case measure => simp [intOf]; omega
        · have hg : r.gone = false := by simpa using hg
          rw [hg] at d3 hsn
          simp only [Bool.not_false, Bool.true_and, decide_eq_true_eq] at hsn
          by_cases hs : s ≤ hv
          · rw [if_pos hs] at hsn
            have HSN : Hid (holdK rows f s (k + 1) = holdK rows f s k ++ [(k : Int)]) := hsn
            clear hsn
            go_wp2
            refine wp_region_plan No (.pur 0 (.rd 1 (.pur 2 (.pur 3 (.pur 4 (.pur 6 (.pur 10 (.rd 5 (.rd 7 (.pur 8 (.rd 9 (.rd 11 (.pur 12 (.pur 13 .fin)))))))))))))) [] mixed (by kernel_rfl) ?_
            repeat ((first | refine pl_pur (by simp only [List.getD_cons_succ, List.getD_cons_zero]; rfl) _ (by rfl) (fun W => by go_simp; with_reducible rfl) ?_ | refine pl_rd (by simp only [List.getD_cons_succ, List.getD_cons_zero]; rfl) _ (by rfl) (fun W hW => by have hc := kcell hW; clear hW; go_simp; with_reducible rfl) ?_ | refine pl_skip (by simp only [List.getD_cons_succ, List.getD_cons_zero]; rfl) (by rfl) ?_ | refine pl_skip_rd (by simp only [List.getD_cons_succ, List.getD_cons_zero]; rfl) (by rfl) ?_ | refine pl_skip_grow (by simp only [List.getD_cons_succ, List.getD_cons_zero]; rfl) (by rfl) ?_ | refine pl_skip_act (by simp only [List.getD_cons_succ, List.getD_cons_zero]; rfl) (by rfl) ?_); simp only [Act.put, List.setIfInBounds_toArray, List.set_cons_zero, List.set_cons_succ])
            refine pl_fin ?_
            obtain ⟨wd, hwd⟩ : ∃ wd, wd = (wr.alloc (.cells #[.int .u64 r.inst, .slice x0 y0 z0, .slice (some ⟨bh, oh, none⟩) n ch, .bool false] 80)).drew := ⟨_, rfl⟩
            have HD : Hid (Kept No wr wd) := by show Kept _ _ _; rw [hwd]; exact ((Kept.refl _ _).alloc _).drew
            rw [← hwd]
            clear hwd
            have hA : Kept No wr (wd.alloc (.cells #[.int .i64 k] 3)) := HD.out.alloc _
            have HA : Hid (Kept No wr (wd.alloc (.cells #[.int .i64 k] 3))) := hA
            clear hA
            have hki : ∀ x ∈ [(k : Int)], InR .i64 x := by simp [inr_i64]; omega
            have HKI : Hid (∀ x ∈ [(k : Int)], InR .i64 x) := hki
            clear hki
            go_wp2_with (at_builtin; go_must (refine wpList_append_tw (d := kI .i64) (G := No) (F := fun k' => k' = wd.heap.size) rfl (.tmp 45) (.tmp 47) 42 rfl 3 (.int .i64 0) 8 Try.underlying42 info_i64 rfl _ _ 1 _ [(k : Int)] [.int .i64 k] rfl (HQ.out.2.2.2.new HA.out) rfl (src_new rfl) (reps_ints HKI.out) rfl (fun _ h => h.elim) ?_ ?_ ?_))
            · have := HLk.out; simp only [maxLen]; omega
            · have := HLk.out; omega
            · intro v' w' htw2 hk3 hb2
              have hf1 := HQ.out.1.next (v' := v') (w := wd.alloc (.cells #[.int .i64 k] 3)) (Nat.le_trans (HK2.out.trans HQ.out.2.2.1).size HA.out.size) (by simpa using hb2)
              have hf2 := HQ.out.2.1.next (v' := v') (w := wd.alloc (.cells #[.int .i64 k] 3)) (Nat.le_trans HQ.out.2.2.1.size HA.out.size) (by simpa using hb2)
              have hke2 := (HQ.out.2.2.1.trans HA.out).fresh hk3 HQ.out.2.1
              rw [← HSN.out] at htw2
              clear hk3 hb2
              go_wp2
              go_roundw
              case rel => exact ⟨k + 1, by omega, by go_num, htw2, hf1, hf2, hke2⟩
              case measure => simp [intOf]; omega
          · rw [if_neg hs] at hsn
            have HSN : Hid (holdK rows f s (k + 1) = holdK rows f s k) := by show _ = _; simpa using hsn
            clear hsn
            go_wp2
            refine wp_region_plan No (.pur 0 (.rd 1 (.pur 2 (.pur 3 (.pur 4 (.pur 6 (.pur 10 (.rd 5 (.rd 7 (.pur 8 (.rd 9 (.rd 11 (.pur 12 (.pur 13 .fin)))))))))))))) [] mixed (by kernel_rfl) ?_
            repeat ((first | refine pl_pur (by simp only [List.getD_cons_succ, List.getD_cons_zero]; rfl) _ (by rfl) (fun W => by go_simp; with_reducible rfl) ?_ | refine pl_rd (by simp only [List.getD_cons_succ, List.getD_cons_zero]; rfl) _ (by rfl) (fun W hW => by have hc := kcell hW; clear hW; go_simp; with_reducible rfl) ?_ | refine pl_skip (by simp only [List.getD_cons_succ, List.getD_cons_zero]; rfl) (by rfl) ?_ | refine pl_skip_rd (by simp only [List.getD_cons_succ, List.getD_cons_zero]; rfl) (by rfl) ?_ | refine pl_skip_grow (by simp only [List.getD_cons_succ, List.getD_cons_zero]; rfl) (by rfl) ?_ | refine pl_skip_act (by simp only [List.getD_cons_succ, List.getD_cons_zero]; rfl) (by rfl) ?_); simp only [Act.put, List.setIfInBounds_toArray, List.set_cons_zero, List.set_cons_succ])
            refine pl_fin ?_
            go_wp2
            go_roundw
            case rel => exact ⟨k + 1, by omega, by go_num, by rw [HSN.out]; exact HQ.out.2.2.2.new (((Kept.refl _ _).alloc _).drew), HQ.out.1, HQ.out.2.1, (HQ.out.2.2.1.alloc _).drew⟩
            case measure => simp [intOf]; omega
      · go_wp2
        go_ret
        have : k = n := by omega
        subst this
        exact ⟨_, rfl, (htw.slNew hfr), HK2.out.trans hke⟩
end Go.Proofs.Ytfnecdkfhackkaa
