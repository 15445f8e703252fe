/- The package matrix, third part: left, Stable, Least, Most. -/
import Derived.Test.YtfnecdkfhackkaaMat2
import Derived.Test.YtfnecdkfhackkaaDel
import Derived.Test.YtfnecdkfhackkaaMake
set_option linter.unusedVariables false
set_option linter.unusedSimpArgs false
namespace Go.Proofs.Ytfnecdkfhackkaa
open Go.RowKit

theorem left1_any (W : World) (F : Nat → Prop) (r : Row) (cs : List Value) (h : kRow.K W F r cs) : Calls Try.prog 67 #[.agg cs.toArray] W fun e w' => e = .returned (.bool r.gone) ∧ Kept No W w' := by
  obtain ⟨vd, vh, rfl, _⟩ := h
  go_enter Try.func67, Try.ntmps67
  go_wp2
  go_ret
  exact ⟨rfl, (Kept.refl _ _).alloc _⟩

theorem MatAt.sl {w : World} {G : Nat → Prop} {b rb n : Nat} {rows : List Row} (h : MatAt w b rb n rows G) : Sl kRow w (fun k => k = rb ∨ G k) (.slice (some ⟨rb, 0, none⟩) n n) rows := by
  obtain ⟨cur, h1, h2⟩ := h.row
  have hr : Reps (kRow.K w (fun k => k = rb ∨ G k)) 4 rows cur.toList := h2.imp fun _ _ => kRow.mono fun k hk _ => .inr hk
  refine ⟨cur.toList, ⟨_, n, by rw [h.len], by rw [h.len]; exact Nat.le_refl _, by have := h.le; simp only [maxLen]; omega, hr.1, hr.one fun _ _ => kRow.one, fun _ => ⟨rb, 0, rfl, .inl rfl, fun j u hj => ?_⟩⟩, hr⟩
  rw [cell_of_row w rb _ _ _ _ h1]
  simpa using hj
theorem MatAt.flt {w : World} {G : Nat → Prop} {b rb n : Nat} {rows : List Row} (h : MatAt w b rb n rows G) : ∀ k, (k = rb ∨ G k) → k < w.heap.size := fun k hk => hk.elim (fun e => by rw [e]; exact h.lt.2) (h.glt k)

/-- Those that are left. -/
def leftL (rows : List Row) : List Row := rows.filter fun r => !r.gone

theorem left_any {b rb n : Nat} {rows : List Row} {G : Nat → Prop} (w : World) (h : MatAt w b rb n rows G) :
    Calls Try.prog 47 #[.pointer (some ⟨b, 0, none⟩)] w fun e w' => ∃ v', e = .returned v' ∧ TW kRow 80 w' (fun k => k = rb ∨ G k) v' (leftL rows) ∧ Fresh w v' ∧ Kept No w w' := by
  have hC := clone_row kRow rfl _ rows w _ h.sl h.flt (by rw [h.len]; have := h.le; omega)
  have hc := h.c0
  have HF : Hid (∀ k, (k = rb ∨ G k) → k < w.heap.size) := h.flt
  clear h
  go_enter Try.func47, Try.ntmps47
  go_wp2_with (first | (go_at_call 66; ((with_reducible refine hC.mono ?_); rintro e w1 ⟨v1, rfl, ht1, hf1, hk1⟩; have HD := deleteFunc_left kRow rfl Row.gone v1 rows w1 _ ht1 (fun k hk => Nat.lt_of_lt_of_le (HF.out k hk) hk1.size) (show Hid _ from fun W x cs _ hK => left1_any W _ x cs hK); have H1 : Hid (Fresh w v1 ∧ Kept No w w1) := ⟨hf1, hk1⟩; clear ht1 hf1 hk1)) | (go_at_call 65; ((with_reducible refine HD.mono ?_); rintro e w2 ⟨v2, rfl, ht2, ho2, hk2⟩)))
  go_ret
  exact ⟨_, rfl, ht2, fun k hk => H1.out.1 k (ho2 ▸ hk), H1.out.2.fresh hk2 H1.out.1⟩
theorem left_nil (w : World) : Calls Try.prog 47 #[.pointer none] w fun e w' => e = .returned (.slice none 0 0) ∧ w = w' := by
  go_enter Try.func47, Try.ntmps47
  go_wp2
  go_ret
  exact ⟨rfl, rfl⟩

/-- What all that are left have delivered. -/
def stableM (n : Nat) (rows : List Row) : List Int := if (leftL rows).length = 0 then List.replicate n 0 else vfold min ((leftL rows).map Row.done)
theorem info_sl : (Try.prog.info? 27).map (fun i => (i.zero, i.size, i.bytes)) = some (some (.slice none 0 0), 1, 24) := by kernel_rfl

theorem left_len {rows : List Row} : (leftL rows).length ≤ rows.length := List.length_filter_le _ _
theorem snoc_map {α β : Type} (f : α → β) (l : List α) (k : Nat) (x : α) (h : l[k]? = some x) : (l.map f).take (k + 1) = (l.map f).take k ++ [f x] := take_snoc _ _ _ (by rw [List.getElem?_map, h]; rfl)
set_option maxHeartbeats 1000000 in
theorem stable_any {b rb n : Nat} {rows : List Row} {G : Nat → Prop} (w : World) (h : MatAt w b rb n rows G) :
    Calls Try.prog 18 #[.pointer (some ⟨b, 0, none⟩)] w fun e w' => ∃ v', e = .returned v' ∧ Sl (kI .u64) w' (New w w') v' (stableM n rows) ∧ Kept No w w' := by
  have hL := left_any w h
  have hc := h.c0
  have hle := h.le
  have hpos := h.pos
  have hb := h.lt.1
  have HH : Hid (MatAt w b rb n rows G) := h
  obtain ⟨D, hD⟩ : ∃ D, D = (leftL rows).map Row.done := ⟨_, rfl⟩
  have HD : Hid (D = (leftL rows).map Row.done) := hD
  have HL : Hid (D.length = (leftL rows).length) := by show _ = _; rw [hD, List.length_map]
  clear h hD
  go_enter Try.func18, Try.ntmps18
  go_wp2_with (go_at_call 47; ((with_reducible refine hL.mono ?_); rintro e w1 ⟨v1, rfl, ht1, hf1, hk1⟩; obtain ⟨A, c, rfl, hl1, hl2⟩ := ht1.slice; obtain ⟨m, hm⟩ : ∃ m, m = (leftL rows).length := ⟨_, rfl⟩; have H1 : Hid (TW kRow 80 w1 (fun k => k = rb ∨ G k) (.slice A (leftL rows).length c) (leftL rows) ∧ Fresh w (.slice A (leftL rows).length c) ∧ Kept No w w1 ∧ m = (leftL rows).length) := ⟨ht1, hf1, hk1, hm⟩; rw [← hm] at hl1 ⊢; clear ht1 hf1 hk1 hm))
  have hmn : m ≤ 64 := by have := left_len (rows := rows); have := H1.out.2.2.2; have := HH.out.len; omega
  have HDm : Hid (D.length = m) := by show _ = _; rw [HL.out, H1.out.2.2.2]
  clear hL
  go_loopw [3, 11] (fun o i wr => ∃ k : Nat, k ≤ m ∧ i = .int .i64 k ∧ TW (kSl (kI .u64)) 27 wr (fun k => k = rb ∨ G k) o (D.take k) ∧ Fresh w1 o ∧ Kept No w1 wr) (fun _ i _ => m - (intOf i).toNat)
  case atStart => exact ⟨0, Nat.zero_le _, rfl, TW.nil _ _ _ _, Fresh.nil _, Kept.refl _ _⟩
  case round =>
    obtain ⟨k, hk, rfl, htw, hfr, hke⟩ := hrel
    by_cases hlt : k < m
    · obtain ⟨r, hr⟩ : ∃ r, (leftL rows)[k]? = some r := ⟨_, List.getElem?_eq_getElem (by rw [← H1.out.2.2.2]; exact hlt)⟩
      obtain ⟨bl, off, cs, rfl, ⟨vd, vh, rfl, _, hsd, hsh⟩, hcell⟩ := H1.out.1.get hr
      have d0 := hke.cell (hcell 0 _ rfl) id
      have d1 := hke.cell (hcell 1 _ rfl) id
      have d2 := hke.cell (hcell 2 _ rfl) id
      have d3 := hke.cell (hcell 3 _ rfl) id
      have e4 : kRow.sz = 4 := rfl
      rw [e4] at d0 d1 d2 d3
      simp only [Nat.add_zero] at d0
      clear e4
      obtain ⟨x0, y0, z0, rfl, _⟩ : ∃ A n c, vd = .slice A n c ∧ True := by obtain ⟨A, c, h, _⟩ := hsd.slice; exact ⟨A, _, c, h, trivial⟩
      obtain ⟨x1, y1, z1, rfl, _⟩ : ∃ A n c, vh = .slice A n c ∧ True := by obtain ⟨A, c, h, _⟩ := hsh.slice; exact ⟨A, _, c, h, trivial⟩
      have hsn : D.take (k + 1) = D.take k ++ [r.done] := by rw [HD.out]; exact snoc_map _ _ _ _ hr
      have hlen : (D.take k).length = k := by rw [List.length_take, HDm.out]; omega
      have HLk : Hid ((D.take k).length = k) := hlen
      have HQ : Hid (D.take (k + 1) = D.take k ++ [r.done] ∧ Sl (kI .u64) wr (fun k => k = rb ∨ G k) (.slice x0 y0 z0) r.done ∧ Fresh w1 u3 ∧ Kept No w1 wr ∧ TW (kSl (kI .u64)) 27 wr (fun k => k = rb ∨ G k) u3 (D.take k)) := ⟨hsn, hsd.new hke, hfr, hke, htw⟩
      clear hcell hsd hsh hsn hfr hke htw hr hlen
      have hF := HH.out.flt
      have HF : Hid (∀ k, (k = rb ∨ G k) → k < wr.heap.size) := fun k hk => Nat.lt_of_lt_of_le (hF k hk) (Nat.le_trans H1.out.2.2.1.size HQ.out.2.2.2.1.size)
      clear hF
      have hkW : Kept No wr ((wr.alloc (.cells #[.int .u64 r.inst, .slice x0 y0 z0, .slice x1 y1 z1, .bool r.gone] 80)).alloc (.cells #[.slice x0 y0 z0] 27)) := ((Kept.refl _ _).alloc _).alloc _
      have HW : Hid (Kept No wr ((wr.alloc (.cells #[.int .u64 r.inst, .slice x0 y0 z0, .slice x1 y1 z1, .bool r.gone] 80)).alloc (.cells #[.slice x0 y0 z0] 27))) := hkW
      clear hkW
      go_wp2_with (at_builtin; go_must (refine wpList_append_tw (d := kSl (kI .u64)) (G := fun k => k = rb ∨ G k) (F := fun k' => k' = wr.heap.size + 1) rfl (.tmp 15) (.tmp 18) 84 rfl 27 (.slice none 0 0) 24 Try.underlying84 info_sl rfl _ _ 1 _ [r.done] [.slice x0 y0 z0] rfl (HQ.out.2.2.2.2.new HW.out) rfl (src_newN (w := wr.alloc (.cells #[.int .u64 r.inst, .slice x0 y0 z0, .slice x1 y1 z1, .bool r.gone] 80)) (by simp) rfl) (Reps.single ⟨_, rfl, HQ.out.2.1.new HW.out⟩ rfl) rfl (fun k hk => Nat.lt_of_lt_of_le (HF.out k hk) HW.out.size) ?_ ?_ ?_))
      · rw [HLk.out]; simp only [maxLen]; omega
      · rw [HLk.out]; omega
      · intro v' w' htw2 hk2 hb2
        have hfr2 := HQ.out.2.2.1.next (v' := v') (w := (wr.alloc (.cells #[.int .u64 r.inst, .slice x0 y0 z0, .slice x1 y1 z1, .bool r.gone] 80)).alloc (.cells #[.slice x0 y0 z0] 27)) (Nat.le_trans HQ.out.2.2.2.1.size HW.out.size) (by simpa using hb2)
        have hke2 := (HQ.out.2.2.2.1.trans HW.out).fresh hk2 HQ.out.2.2.1
        rw [← HQ.out.1] at htw2
        clear hk2 hb2 d0 d1 d2 d3
        go_wp2
        go_roundw
        case rel => exact ⟨k + 1, by omega, by go_num, htw2, hfr2, hke2⟩
        case measure => simp [intOf]; omega
    · have hkm : k = m := by omega
      subst hkm
      have htk : D.take k = D := List.take_of_length_le (by rw [HDm.out]; exact Nat.le_refl _)
      rw [htk] at htw
      clear htk
      have hsl := htw.sl
      obtain ⟨A3, c3, rfl, hl3, hm3⟩ := hsl.slice
      rw [HDm.out] at hsl hl3 ⊢
      have hcc := (H1.out.2.2.1.trans hke).cell hc id
      have HK : Hid (Kept No w wr ∧ Kept No w1 wr) := ⟨H1.out.2.2.1.trans hke, hke⟩
      have hwf := fun hr => vecmin_any _ D wr _ hsl hr
      have HWF : Hid (∀ a ∈ D, a.length ≤ 17592186044415) := by
        show ∀ a ∈ D, a.length ≤ 17592186044415
        intro a ha
        rw [HD.out, List.mem_map] at ha
        obtain ⟨r, hr, rfl⟩ := ha
        have := (HH.out.wide r ((List.mem_filter.1 hr).1)).1
        rw [this]; omega
      have hvm := hwf HWF.out
      have hst : stableM n rows = if k = 0 then List.replicate n 0 else vfold min D := by rw [stableM, HD.out, ← H1.out.2.2.2]
      have HST : Hid (stableM n rows = if k = 0 then List.replicate n 0 else vfold min D) := hst
      clear hwf htw hfr hke hsl hc hst
      by_cases hk0 : k = 0
      · subst hk0
        have hn2 : n ≤ 9223372036854775807 := by omega
        go_wp2_with (at_make; go_must (refine wpList_make_tw (d := kI .u64) rfl _ _ 27 rfl 26 (.int .u64 0) 8 Try.underlying27 info_u64 rfl 0 (kI_zero .u64 (by simp [inr_u64])) n rfl rfl (by omega) (by simp only [maxLen]; omega) ?_; intro w2 ht2 hk2))
        go_ret
        refine ⟨_, rfl, ?_, HK.out.1.trans hk2⟩
        rw [HST.out, if_pos trivial]
        refine ht2.sl.mono fun k hk hlt => ⟨?_, hlt⟩
        rcases hk with hk | hk
        · simp only [Value.ownBlock, Option.some.injEq] at hk
          have := HK.out.1.size
          omega
        · exact hk.elim
      · go_wp2_with (go_at_call 48; ((with_reducible refine hvm.mono ?_); rintro e w2 ⟨v2, rfl, ht2, hf2, hk2⟩))
        go_ret
        refine ⟨_, rfl, ?_, HK.out.1.trans hk2⟩
        rw [HST.out, if_neg hk0]
        exact (ht2.slNew hf2).mono fun k hk _ => ⟨Nat.le_trans HK.out.1.size hk.1, hk.2⟩
end Go.Proofs.Ytfnecdkfhackkaa
