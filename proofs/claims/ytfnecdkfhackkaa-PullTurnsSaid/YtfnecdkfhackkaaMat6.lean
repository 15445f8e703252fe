/- The package matrix, sixth part: New. -/
import Derived.Lib.MinMax
import Derived.Test.YtfnecdkfhackkaaMat5
set_option linter.unusedVariables false
set_option linter.unusedSimpArgs false
namespace Go.Proofs.Ytfnecdkfhackkaa
open Go.RowKit

section
variable {P : Program} {F : Nat → Prop}
theorem pl_fork {l : List Oper} {K : Act → World → Prop} {a : Act} {w : World} {i j : Nat} {p q : Plan} {o o' : Oper} (hi : l.getD i default = o) (hj : l.getD j default = o')
    (h1 : wpList P l.toArray (GPost F w (wpPl P F l K p)) [o] a w) (h2 : wpList P l.toArray (GPost F w (wpPl P F l K q)) [o'] a w) : wpPl P F l K (.fork i j p q) a w := by
  subst hi hj; exact ⟨h1, h2⟩
end

def zrow (n : Nat) : Row := ⟨0, List.replicate n 0, List.replicate n 0, false⟩
def erow : Row := ⟨0, [], [], false⟩
def newRows (n k : Nat) : List Row := List.replicate k (zrow n) ++ List.replicate (n - k) erow
theorem newRows_len {n k : Nat} (h : k ≤ n) : (newRows n k).length = n := by simp [newRows]; omega
theorem newRows_succ {n k : Nat} (h : k < n) : newRows n (k + 1) = (newRows n k).set k (zrow n) := by
  obtain ⟨m, hm⟩ : ∃ m, n - k = m + 1 := ⟨n - k - 1, by omega⟩
  have h2 : n - (k + 1) = m := by omega
  rw [newRows, newRows, h2, hm, List.replicate_succ', List.set_append_right _ _ (by simp), List.length_replicate, Nat.sub_self, List.replicate_succ, List.set_cons_zero]
  simp
theorem info_row : (Try.prog.info? 80).map (fun i => (i.zero, i.size, i.bytes)) = some (some (.agg #[.int .u64 0, .slice none 0 0, .slice none 0 0, .bool false]), 4, 64) := by kernel_rfl
theorem erow_K (W : World) : kRow.K W No erow (Value.agg #[.int .u64 0, .slice none 0 0, .slice none 0 0, .bool false]).cells.toList := ⟨_, _, rfl, by simp [inr_u64, erow], Sl.nil _ _ _, Sl.nil _ _ _⟩
theorem agg_row : Agg Try.prog 80 4 := Agg.mk' Try.underlying80 rfl (by kernel_rfl)
theorem aggRow4 {a b c d : Value} : Agg Try.prog 80 [a, b, c, d].length := agg_row

theorem new_put {wr w3 : World} {B rb n k : Nat} {ys : List Row} {va vb : Value} (h : TW kRow 80 wr (fun j => B < j ∧ j < wr.heap.size) (.slice (some ⟨rb, 0, none⟩) n n) ys) (hk : Kept No wr w3)
    (ha : TW (kI .u64) 26 w3 No va (List.replicate n 0)) (hb : TW (kI .u64) 26 w3 No vb (List.replicate n 0)) (hfa : ∀ j, va.ownBlock = some j → B < j) (hfb : ∀ j, vb.ownBlock = some j → B < j) (hrb : rb ≤ B) (hl : ys.length = n) (hkn : k < n) :
    ∃ cur, w3.heap[rb]? = some (.cells cur 80 (0, 0)) ∧ k * 4 + 4 ≤ cur.size ∧
      TW kRow 80 (w3.setRow rb (cur.toList.take (k * 4) ++ [.int .u64 0, va, vb, .bool false] ++ cur.toList.drop (k * 4 + 4)).toArray) (fun j => B < j ∧ j < w3.heap.size) (.slice (some ⟨rb, 0, none⟩) n n) (ys.set k (zrow n)) := by
  have h3 := (h.new hk).gmono (F := fun j => B < j ∧ j < w3.heap.size) (fun j hj hlt => ⟨hj.1, hlt⟩) (fun j hj => by
    simp only [Value.ownBlock, Option.some.injEq] at hj
    omega)
  have hx : kRow.K w3 (fun j => B < j ∧ j < w3.heap.size) (zrow n) [.int .u64 0, va, vb, .bool false] := by
    refine ⟨va, vb, rfl, by simp [inr_u64, zrow], ha.sl.mono fun j hj hlt => ?_, hb.sl.mono fun j hj hlt => ?_⟩
    · exact ⟨hj.elim (hfa j) (fun h => h.elim), hlt⟩
    · exact ⟨hj.elim (hfb j) (fun h => h.elim), hlt⟩
  obtain ⟨cur, hg, hfit, hT⟩ := h3.set hl hkn hx
  have e4 : kRow.sz = 4 := rfl
  rw [e4] at hfit hT
  simp only [Nat.zero_add, List.length_cons, List.length_nil] at hfit hT
  exact ⟨cur, hg, hfit, hT⟩
theorem own_at (g n c : Nat) (B : Nat) (h : B < g) : ∀ j, (Value.slice (some ⟨g, 0, none⟩) n c).ownBlock = some j → B < j := fun j hj => by
  simp only [Value.ownBlock, Option.some.injEq] at hj
  omega

set_option maxHeartbeats 1000000 in
theorem new_any (p : Int) (w : World) : Calls Try.prog 13 #[.int .i64 p] w fun e w' => ∃ b rb G, e = .returned (.pointer (some ⟨b, 0, none⟩)) ∧
    MatAt w' b rb (max 1 (min p 64)).toNat (List.replicate (max 1 (min p 64)).toNat (zrow (max 1 (min p 64)).toNat)) G ∧ Kept No w w' ∧ w.heap.size ≤ rb ∧ w.heap.size ≤ b ∧ ∀ k, G k → w.heap.size ≤ k := by
  obtain ⟨n, hn⟩ : ∃ n : Nat, max 1 (min p 64) = n := ⟨(max 1 (min p 64)).toNat, by omega⟩
  have hn1 : 1 ≤ n := by omega
  have hn2 : n ≤ 64 := by omega
  rw [hn, Int.toNat_natCast]
  have HN : Hid (max 1 (min p 64) = n) := hn
  clear hn
  go_enter Try.func13, Try.ntmps13
  go_wp2_with (at_make; rw [HN.out]; go_loud (refine wpList_make_tws (d := kRow) rfl _ _ 76 rfl 80 (.agg #[.int .u64 0, .slice none 0 0, .slice none 0 0, .bool false]) 64 Try.underlying76 info_row rfl erow erow_K n rfl rfl (by omega) (by simp only [maxLen]; omega) ?_; intro w1 ht1 hk1 hx1))
  have hlt1 : w.heap.size < w1.heap.size := (ht1.lt _ rfl).1
  have hk1' : Kept No w (w1.alloc (.cells #[.slice (some ⟨w.heap.size, 0, none⟩) n n] 78)) := hk1.alloc _
  have ht1' := ht1.new ((Kept.refl No w1).alloc (.cells #[.slice (some ⟨w.heap.size, 0, none⟩) n n] 78))
  have hx1' : ∃ cur, (w1.alloc (.cells #[.slice (some ⟨w.heap.size, 0, none⟩) n n] 78)).heap[w.heap.size]? = some (.cells cur 80 (0, 0)) ∧ cur.size = n * 4 := by
    obtain ⟨cur, hx, hs⟩ := hx1
    exact ⟨cur, (Below.heap_alloc _ _ _ hlt1).trans hx, hs⟩
  have HX1 : Hid (∃ cur, (w1.alloc (.cells #[.slice (some ⟨w.heap.size, 0, none⟩) n n] 78)).heap[w.heap.size]? = some (.cells cur 80 (0, 0)) ∧ cur.size = n * 4) := hx1'
  clear hx1 hx1'
  have HK1 : Hid (Kept No w (w1.alloc (.cells #[.slice (some ⟨w.heap.size, 0, none⟩) n n] 78)) ∧ TW kRow 80 (w1.alloc (.cells #[.slice (some ⟨w.heap.size, 0, none⟩) n n] 78)) No (.slice (some ⟨w.heap.size, 0, none⟩) n n) (List.replicate n erow)) := ⟨hk1', ht1'⟩
  clear hk1 hk1' ht1 ht1'
  go_loopw [17] (fun i wr => ∃ k : Nat, k ≤ n ∧ i = .int .i64 k ∧ TW kRow 80 wr (fun j => w1.heap.size < j ∧ j < wr.heap.size) (.slice (some ⟨w.heap.size, 0, none⟩) n n) (newRows n k) ∧ wr.heap[w1.heap.size]? = some (.cells #[.slice (some ⟨w.heap.size, 0, none⟩) n n] 78 (0, 0)) ∧ (∃ cur, wr.heap[w.heap.size]? = some (.cells cur 80 (0, 0)) ∧ cur.size = n * 4) ∧ Kept No w wr) (fun i _ => n - (intOf i).toNat)
  case atStart => exact ⟨0, Nat.zero_le _, rfl, by rw [newRows]; simpa using HK1.out.2.gmono (fun _ h => h.elim) (fun k hk => by simp only [Value.ownBlock, Option.some.injEq] at hk; omega), heap_alloc_new _ _, HX1.out, HK1.out.1⟩
  case round =>
    obtain ⟨k, hk, rfl, htw, hhd, hxx, hke⟩ := hrel
    by_cases hlt : k < n
    · have hcc : wr.cell? ⟨w1.heap.size, 0, none⟩ = some (.slice (some ⟨w.heap.size, 0, none⟩) n n) := by rw [cell_of_row wr _ 0 _ _ _ hhd]; rfl
      have hsz := lt_of_heap hhd
      have hsz0 := hke.size
      have HQ : Hid (TW kRow 80 wr (fun j => w1.heap.size < j ∧ j < wr.heap.size) (.slice (some ⟨w.heap.size, 0, none⟩) n n) (newRows n k) ∧ wr.heap[w1.heap.size]? = some (.cells #[.slice (some ⟨w.heap.size, 0, none⟩) n n] 78 (0, 0)) ∧ Kept No w wr ∧ ∃ cur, wr.heap[w.heap.size]? = some (.cells cur 80 (0, 0)) ∧ cur.size = n * 4) := ⟨htw, hhd, hke, hxx⟩
      clear htw hhd hke hxx
      go_wp2
      refine wp_region_plan No (.pur 0 (.pur 1 (.pur 2 (.pur 4 (.pur 5 (.pur 7 (.rd 3 (.fork 6 8 (.grow 8 (.pur 9 (.pur 10 (.act 11 .fin)))) (.grow 6 (.pur 9 (.pur 10 (.act 11 .fin)))))))))))) [11] mixed (by kernel_rfl) ?_
      repeat ((first | refine pl_pur (by simp only [List.getD_cons_succ, List.getD_cons_zero]; rfl) _ (by rfl) (fun W => by go_simp; with_reducible rfl) ?_ | refine pl_rd (by simp only [List.getD_cons_succ, List.getD_cons_zero]; rfl) _ (by rfl) (fun W hW => by have hc := kcell hW; clear hW; go_simp; with_reducible rfl) ?_); simp only [Act.put, List.setIfInBounds_toArray, List.set_cons_zero, List.set_cons_succ])
      refine pl_rd (by simp only [List.getD_cons_succ, List.getD_cons_zero]; rfl) _ (by rfl) (fun W hW => by have hc := hW.cell (show wr.drew.cell? ⟨w1.heap.size, 0, none⟩ = some (.slice (some ⟨w.heap.size, 0, none⟩) n n) from hcc) id; clear hW; go_simp; with_reducible rfl) ?_
      simp only [Act.put, List.setIfInBounds_toArray, List.set_cons_zero, List.set_cons_succ]
      refine pl_fork (by simp only [List.getD_cons_succ, List.getD_cons_zero]; rfl) (by simp only [List.getD_cons_succ, List.getD_cons_zero]; rfl) ?_ ?_
      · go_wp2_with (at_make; go_loud (refine wpList_make_tw (d := kI .u64) rfl _ _ 27 rfl 26 (.int .u64 0) 8 Try.underlying27 info_u64 rfl 0 (kI_zero .u64 (by simp [inr_u64])) n rfl rfl (by omega) (by simp only [maxLen]; omega) ?_; intro w2 ht2 hk2))
        refine GPost.mk hk2 ?_
        have HK2 : Hid (Kept No wr.drew w2 ∧ TW (kI .u64) 26 w2 No (.slice (some ⟨wr.heap.size, 0, none⟩) n n) (List.replicate n 0)) := ⟨hk2, by simpa using ht2⟩
        have hs2 : wr.heap.size ≤ w2.heap.size := by simpa using hk2.size
        clear hk2 ht2
        refine pl_grow (by simp only [List.getD_cons_succ, List.getD_cons_zero]; rfl) ?_
        go_wp2_with (at_make; go_loud (refine wpList_make_tw (d := kI .u64) rfl _ _ 27 rfl 26 (.int .u64 0) 8 Try.underlying27 info_u64 rfl 0 (kI_zero .u64 (by simp [inr_u64])) n rfl rfl (by omega) (by simp only [maxLen]; omega) ?_; intro w3 ht3 hk3))
        refine GPost.mk hk3 ?_
        have HK3 : Hid (Kept No w2 w3 ∧ TW (kI .u64) 26 w3 No (.slice (some ⟨w2.heap.size, 0, none⟩) n n) (List.replicate n 0)) := ⟨hk3, ht3⟩
        have hs3 : w2.heap.size ≤ w3.heap.size := by simpa using hk3.size
        clear hk3 ht3
        repeat ((first | refine pl_pur (by simp only [List.getD_cons_succ, List.getD_cons_zero]; rfl) _ (by rfl) (fun W => by go_simp; with_reducible rfl) ?_ | refine pl_rd (by simp only [List.getD_cons_succ, List.getD_cons_zero]; rfl) _ (by rfl) (fun W hW => by have hc := kcell hW; clear hW; go_simp; with_reducible rfl) ?_); simp only [Act.put, List.setIfInBounds_toArray, List.set_cons_zero, List.set_cons_succ])
        refine pl_act (by simp only [List.getD_cons_succ, List.getD_cons_zero]; rfl) ?_
        have hlen := newRows_len hk
        have hk03 : Kept No wr w3 := (Kept.refl No wr).drew.trans (HK2.out.1.trans HK3.out.1)
        obtain ⟨cur, hg, hfit, hT⟩ := new_put (va := .slice (some ⟨wr.heap.size, 0, none⟩) n n) (vb := .slice (some ⟨w2.heap.size, 0, none⟩) n n) HQ.out.1 hk03 (HK2.out.2.new HK3.out.1) (HK3.out.2) (own_at _ _ _ _ hsz) (own_at _ _ _ _ (by omega)) (by omega) hlen hlt
        have HT : Hid (w3.heap[w.heap.size]? = some (.cells cur 80 (0, 0)) ∧ k * 4 + 4 ≤ cur.size ∧ TW kRow 80 (w3.setRow w.heap.size (cur.toList.take (k * 4) ++ ([.int .u64 0, .slice (some ⟨wr.heap.size, 0, none⟩) n n, .slice (some ⟨w2.heap.size, 0, none⟩) n n, .bool false] : List Value) ++ cur.toList.drop (k * 4 + 4)).toArray) (fun j => w1.heap.size < j ∧ j < w3.heap.size) (.slice (some ⟨w.heap.size, 0, none⟩) n n) ((newRows n k).set k (zrow n))) := ⟨hg, hfit, hT⟩
        have HK03 : Hid (Kept No wr w3) := hk03
        clear hg hfit hT hlen hk03
        refine wpList_store_whole (by rfl) (.tmp 30) (.tmp 29) 80 (by rfl) w.heap.size (k * 4) 80 (by rfl) [.int .u64 0, .slice (some ⟨wr.heap.size, 0, none⟩) n n, .slice (some ⟨w2.heap.size, 0, none⟩) n n, .bool false] (by rfl) aggRow4 cur HT.out.1 HT.out.2.1 (by simp [Value.oneCell']) ?_
        intro w4 HW4
        refine APost.mk (pl_fin ?_)
        go_wp2
        go_roundw
        case rel =>
          have hcsz : cur.size = n * 4 := by
            obtain ⟨cu, hx, hs⟩ := HQ.out.2.2.2
            have := (HK03.out.block _ (by omega) id).trans hx
            rw [HT.out.1] at this
            simp only [Option.some.injEq, Obj.cells.injEq] at this
            rw [this.1]; exact hs
          refine ⟨k + 1, by omega, by go_num, ?_, ?_, ?_, ?_⟩
          · rw [newRows_succ hlt, HW4.out]
            exact HT.out.2.2.gmono (fun j hj _ => ⟨hj.1, by simpa using hj.2⟩) (fun j hj => by simp only [Value.ownBlock, Option.some.injEq] at hj; omega)
          · rw [HW4.out]
            exact (setRow_other _ _ _ _ (by omega)).trans ((HK03.out.block _ hsz id).trans HQ.out.2.1)
          · rw [HW4.out]
            refine ⟨_, setRow_heap _ _ _ _ _ _ HT.out.1, ?_⟩
            have := HT.out.2.1
            simp
            omega
          · rw [HW4.out]
            exact (HQ.out.2.2.1.trans HK03.out).setRow (fun h => absurd h (Nat.lt_irrefl _)) _
        case measure => simp [intOf]; omega
      · go_wp2_with (at_make; go_loud (refine wpList_make_tw (d := kI .u64) rfl _ _ 27 rfl 26 (.int .u64 0) 8 Try.underlying27 info_u64 rfl 0 (kI_zero .u64 (by simp [inr_u64])) n rfl rfl (by omega) (by simp only [maxLen]; omega) ?_; intro w2 ht2 hk2))
        refine GPost.mk hk2 ?_
        have HK2 : Hid (Kept No wr.drew w2 ∧ TW (kI .u64) 26 w2 No (.slice (some ⟨wr.heap.size, 0, none⟩) n n) (List.replicate n 0)) := ⟨hk2, by simpa using ht2⟩
        have hs2 : wr.heap.size ≤ w2.heap.size := by simpa using hk2.size
        clear hk2 ht2
        refine pl_grow (by simp only [List.getD_cons_succ, List.getD_cons_zero]; rfl) ?_
        go_wp2_with (at_make; go_loud (refine wpList_make_tw (d := kI .u64) rfl _ _ 27 rfl 26 (.int .u64 0) 8 Try.underlying27 info_u64 rfl 0 (kI_zero .u64 (by simp [inr_u64])) n rfl rfl (by omega) (by simp only [maxLen]; omega) ?_; intro w3 ht3 hk3))
        refine GPost.mk hk3 ?_
        have HK3 : Hid (Kept No w2 w3 ∧ TW (kI .u64) 26 w3 No (.slice (some ⟨w2.heap.size, 0, none⟩) n n) (List.replicate n 0)) := ⟨hk3, ht3⟩
        have hs3 : w2.heap.size ≤ w3.heap.size := by simpa using hk3.size
        clear hk3 ht3
        repeat ((first | refine pl_pur (by simp only [List.getD_cons_succ, List.getD_cons_zero]; rfl) _ (by rfl) (fun W => by go_simp; with_reducible rfl) ?_ | refine pl_rd (by simp only [List.getD_cons_succ, List.getD_cons_zero]; rfl) _ (by rfl) (fun W hW => by have hc := kcell hW; clear hW; go_simp; with_reducible rfl) ?_); simp only [Act.put, List.setIfInBounds_toArray, List.set_cons_zero, List.set_cons_succ])
        refine pl_act (by simp only [List.getD_cons_succ, List.getD_cons_zero]; rfl) ?_
        have hlen := newRows_len hk
        have hk03 : Kept No wr w3 := (Kept.refl No wr).drew.trans (HK2.out.1.trans HK3.out.1)
        obtain ⟨cur, hg, hfit, hT⟩ := new_put (va := .slice (some ⟨w2.heap.size, 0, none⟩) n n) (vb := .slice (some ⟨wr.heap.size, 0, none⟩) n n) HQ.out.1 hk03 (HK3.out.2) (HK2.out.2.new HK3.out.1) (own_at _ _ _ _ (by omega)) (own_at _ _ _ _ hsz) (by omega) hlen hlt
        have HT : Hid (w3.heap[w.heap.size]? = some (.cells cur 80 (0, 0)) ∧ k * 4 + 4 ≤ cur.size ∧ TW kRow 80 (w3.setRow w.heap.size (cur.toList.take (k * 4) ++ ([.int .u64 0, .slice (some ⟨w2.heap.size, 0, none⟩) n n, .slice (some ⟨wr.heap.size, 0, none⟩) n n, .bool false] : List Value) ++ cur.toList.drop (k * 4 + 4)).toArray) (fun j => w1.heap.size < j ∧ j < w3.heap.size) (.slice (some ⟨w.heap.size, 0, none⟩) n n) ((newRows n k).set k (zrow n))) := ⟨hg, hfit, hT⟩
        have HK03 : Hid (Kept No wr w3) := hk03
        clear hg hfit hT hlen hk03
        refine wpList_store_whole (by rfl) (.tmp 30) (.tmp 29) 80 (by rfl) w.heap.size (k * 4) 80 (by rfl) [.int .u64 0, .slice (some ⟨w2.heap.size, 0, none⟩) n n, .slice (some ⟨wr.heap.size, 0, none⟩) n n, .bool false] (by rfl) aggRow4 cur HT.out.1 HT.out.2.1 (by simp [Value.oneCell']) ?_
        intro w4 HW4
        refine APost.mk (pl_fin ?_)
        go_wp2
        go_roundw
        case rel =>
          have hcsz : cur.size = n * 4 := by
            obtain ⟨cu, hx, hs⟩ := HQ.out.2.2.2
            have := (HK03.out.block _ (by omega) id).trans hx
            rw [HT.out.1] at this
            simp only [Option.some.injEq, Obj.cells.injEq] at this
            rw [this.1]; exact hs
          refine ⟨k + 1, by omega, by go_num, ?_, ?_, ?_, ?_⟩
          · rw [newRows_succ hlt, HW4.out]
            exact HT.out.2.2.gmono (fun j hj _ => ⟨hj.1, by simpa using hj.2⟩) (fun j hj => by simp only [Value.ownBlock, Option.some.injEq] at hj; omega)
          · rw [HW4.out]
            exact (setRow_other _ _ _ _ (by omega)).trans ((HK03.out.block _ hsz id).trans HQ.out.2.1)
          · rw [HW4.out]
            refine ⟨_, setRow_heap _ _ _ _ _ _ HT.out.1, ?_⟩
            have := HT.out.2.1
            simp
            omega
          · rw [HW4.out]
            exact (HQ.out.2.2.1.trans HK03.out).setRow (fun h => absurd h (Nat.lt_irrefl _)) _
        case measure => simp [intOf]; omega
    · go_wp2
      go_ret
      have hkn : k = n := by omega
      subst hkn
      obtain ⟨cs, h1, h2, h3⟩ := htw
      have hnr : newRows k k = List.replicate k (zrow k) := by simp [newRows]
      rw [hnr] at h1 h2
      obtain ⟨cx, hx, hxs⟩ := hxx
      rcases h1.2 with ⟨h0, _⟩ | ⟨g, off, cap, cur, hv, hg, h4, h5, h6, h7⟩
      · cases h0
      · simp only [Value.slice.injEq, Option.some.injEq, Addr.mk.injEq] at hv
        obtain ⟨⟨rfl, rfl, _⟩, _, rfl⟩ := hv
        rw [hx] at hg
        simp only [Option.some.injEq, Obj.cells.injEq, and_true] at hg
        subst hg
        have e4 : kRow.sz = 4 := rfl
        rw [e4] at h6 h7
        simp only [List.length_replicate, List.drop_zero, Nat.zero_add] at h4 h6 h7
        rw [List.take_of_length_le (by simp; omega)] at h7
        have hlt := lt_of_heap hhd
        refine ⟨w1.heap.size, w.heap.size, fun j => w1.heap.size < j ∧ j < wr.heap.size, rfl, ⟨hhd, ⟨cx, hx, by rw [h7]; exact h2⟩, by simp, hn1, hn2, fun h => absurd h.1 (Nat.lt_irrefl _), fun h => by have := h.1; omega, by omega, fun j hj => hj.2, ?_⟩, hke, Nat.le_refl _, by omega, fun j hj => by have := hj.1; omega⟩
        intro r hr
        rw [List.eq_of_mem_replicate hr]
        simp [zrow]
end Go.Proofs.Ytfnecdkfhackkaa
