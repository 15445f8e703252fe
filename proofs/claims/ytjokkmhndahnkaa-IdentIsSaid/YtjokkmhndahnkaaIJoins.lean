/- IdentJoins: the rows of any ids are rows, and list just these ids, each once, in order; what is handed in stays: the walk of the law. -/
import Derived.Test.YtjokkmhndahnkaaIOp
set_option linter.unusedVariables false
set_option linter.unusedSimpArgs false
namespace Go.Proofs.Ytjokkmhndahnkaa
open Go.RowKit

theorem SortedOf.len {l s : List PID} (h : SortedOf l s) : s.length ≤ l.length := h.asc.len_le fun a ha => ((h.mem a).1 ha).1
theorem SortedOf.lists {l s : List PID} (h : SortedOf l s) {most : Int} (h0 : 0 ≤ most) (hm : (l.length : Int) ≤ most) : listP most (joinI s) = s := by
  obtain ⟨h1, h2⟩ := h.good
  have hr := rowsF_run h2
  have hlen := listI_len hr
  rw [h1] at hlen
  have hle := h.len
  rw [list_all (by omega) (by unfold countI; omega) hr, h1]
theorem TW.slOld {α : Type} {d : Kd α} {e : TypeId} {w : World} {v : Value} {xs : List α} (h : TW d e w No v xs) : Sl d w (fun k => v.ownBlock = some k ∨ No k) v xs := h.sl
theorem TW.lt2 {α : Type} {d : Kd α} {e : TypeId} {w : World} {v : Value} {xs : List α} (h : TW d e w No v xs) : ∀ k, (v.ownBlock = some k ∨ No k) → k < w.heap.size := fun k hk => hk.elim (fun hk => (h.lt k hk).1) (fun h => h.elim)

set_option maxRecDepth 20000 in
set_option maxHeartbeats 2000000 in
theorem identJoins_any (v : Value) (l : List PID) (w : World) (hl : Sl kID w (Old w) v l) : Calls Try.prog 3 #[v] w fun e w' => e = .returned (.bool true) ∧ Kept No w w' := by
  have haw := fun W => awake_any W
  obtain ⟨A, c, rfl, hc1, hc2⟩ := hl.slice
  simp only [maxLen] at hc2
  by_cases hbig : 100 < l.length
  · obtain ⟨n, hn⟩ : ∃ n, n = l.length := ⟨_, rfl⟩
    rw [← hn] at hbig hc1 ⊢
    clear hn hl
    go_enter Try.func3, Try.ntmps3
    go_wp2_with (go_at_call 8; ((with_reducible refine (haw _).mono ?_); rintro e w1 ⟨rfl, hk1⟩))
    go_ret
    exact ⟨rfl, hk1⟩
  · obtain ⟨n, hn⟩ : ∃ n, n = l.length := ⟨_, rfl⟩
    have hl0 := hl
    rw [← hn] at hbig hc1 hl ⊢
    have k0 : Kept No w (w.alloc (.cells #[] 33)) := (Kept.refl _ _).alloc _
    have ht0 : TW kID 33 (w.alloc (.cells #[] 33)) No (.slice (some ⟨w.heap.size, 0, none⟩) 0 0) [] := TW.empty (heap_alloc_new _ _) id
    have hf0 : Fresh w (.slice (some ⟨w.heap.size, 0, none⟩) 0 0) := fun k hk => by simp [Value.ownBlock] at hk; omega
    obtain ⟨cs, hsrc, hrep⟩ := hl.new k0
    rw [← hn] at hsrc
    have hrep2 : Reps (kID.K (w.alloc (.cells #[] 33)) No) kID.sz l cs := hrep
    have H0 : Hid (Kept No w (w.alloc (.cells #[] 33)) ∧ TW kID 33 (w.alloc (.cells #[] 33)) No (.slice (some ⟨w.heap.size, 0, none⟩) 0 0) [] ∧ Fresh w (.slice (some ⟨w.heap.size, 0, none⟩) 0 0) ∧ Src (w.alloc (.cells #[] 33)) (Old w) kID.sz (.slice A n c) n cs ∧ Reps (kID.K (w.alloc (.cells #[] 33)) No) kID.sz l cs ∧ n = l.length ∧ Sl kID w (Old w) (.slice A n c) l) := ⟨k0, ht0, hf0, hsrc, hrep2, hn, hl⟩
    clear k0 ht0 hf0 hsrc hrep hrep2 hn hl hl0
    go_enter Try.func3, Try.ntmps3
    go_wp2_with (at_builtin; go_must (refine wpList_append_tw (d := kID) (G := No) (F := Old w) rfl (.tmp 9) (.tmp 10) 22 rfl 33 (.agg #[.int .u8 0, .int .u64 0]) 16 Try.underlying22 cinfo_ids rfl _ _ n [] l cs rfl H0.out.2.1 rfl H0.out.2.2.2.1 H0.out.2.2.2.2.1 H0.out.2.2.2.2.2.1.symm (fun _ h => h.elim) ?_ ?_ ?_))
    · simp only [maxLen, List.length_nil]; omega
    · simp only [List.length_nil]; omega
    · intro v1 w1 ht1 hk1 hb1
      have hk01 : Kept No w w1 := H0.out.1.fresh hk1 H0.out.2.2.1
      have hn := H0.out.2.2.2.2.2.1
      have hJ := join_op v1 l w1 _ ht1.slOld ht1.lt2 (by omega)
      have H1 : Hid (Kept No w w1 ∧ TW kID 33 w1 No v1 l) := ⟨hk01, ht1⟩
      clear ht1 hk1 hb1 hk01 hn
      go_wp2_with (first
        | (go_at_call 9; ((with_reducible refine hJ.mono ?_); rintro e w2 ⟨v2, s, rfl, hs, ht2, hf2, hk2⟩; have hR := rows_ref v2 (joinI s) w2 _ ht2.slOld; rw [hs.good.2] at hR; have H2 : Hid (Kept No w w2 ∧ TW kID 33 w2 No v1 l ∧ TW kRun 40 w2 No v2 (joinI s) ∧ SortedOf l s) := ⟨H1.out.1.trans hk2, H1.out.2.new hk2, ht2, hs⟩; clear hJ hs ht2 hf2 hk2))
        | (go_at_call 10; ((with_reducible refine hR.mono ?_); rintro e w3 ⟨rfl, hk3⟩; have hL := list_ref 100 v2 (joinI s) w3 _ (H2.out.2.2.1.new hk3).slOld (by omega); rw [H2.out.2.2.2.lists (by omega) (by have := H0.out.2.2.2.2.2.1; omega)] at hL; have H3 : Hid (Kept No w w3 ∧ TW kID 33 w3 No v1 l) := ⟨H2.out.1.trans hk3, H2.out.2.1.new hk3⟩; clear hR hk3))
        | (go_at_call 12; ((with_reducible refine hL.mono ?_); rintro e w4 ⟨v4, rfl, ht4, hf4, hk4⟩; have hS := sort_ref (.slice A n c) l w4 _ (H0.out.2.2.2.2.2.2.new (H3.out.1.trans hk4)) (by have := H0.out.2.2.2.2.2.1; omega); have H4 : Hid (Kept No w w4 ∧ TW kID 33 w4 No v1 l ∧ TW kID 33 w4 No v4 s) := ⟨H3.out.1.trans hk4, H3.out.2.new hk4, ht4⟩; clear hL ht4 hf4 hk4))
        | (go_at_call 13; ((with_reducible refine hS.mono ?_); rintro e w5 ⟨v5, s5, rfl, hs5, ht5, hf5, hk5⟩; rw [hs5.unique H2.out.2.2.2] at ht5; have hE := same_ids v4 v5 s s w5 _ _ (H4.out.2.2.new hk5).slOld ht5.slOld; rw [decide_eq_true rfl] at hE; have H5 : Hid (Kept No w w5 ∧ TW kID 33 w5 No v1 l) := ⟨H4.out.1.trans hk5, H4.out.2.1.new hk5⟩; clear hS hs5 ht5 hf5 hk5))
        | (go_at_call 11; first
          | ((with_reducible refine hE.mono ?_); rintro e w6 ⟨rfl, hk6⟩; have hE2 := same_ids v1 (.slice A n c) l l w6 _ _ (H5.out.2.new hk6).slOld (H0.out.2.2.2.2.2.2.new (H5.out.1.trans hk6)); rw [decide_eq_true rfl] at hE2; have H6 : Hid (Kept No w w6) := H5.out.1.trans hk6; clear hE hk6)
          | ((with_reducible refine hE2.mono ?_); rintro e w7 ⟨rfl, hk7⟩; have H7 : Hid (Kept No w w7) := H6.out.trans hk7; clear hE2 hk7))
        | (go_at_call 8; ((with_reducible refine (haw _).mono ?_); rintro e w8 ⟨rfl, hk8⟩)))
      go_ret
      exact ⟨rfl, H7.out.trans hk8⟩
end Go.Proofs.Ytjokkmhndahnkaa
