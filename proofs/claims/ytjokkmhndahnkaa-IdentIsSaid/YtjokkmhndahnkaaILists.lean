/- IdentLists: the ids of any runs, or none, are the document's; and rows are joined of their own ids: the walk of the law. -/
import Derived.Test.YtjokkmhndahnkaaIJoins
set_option linter.unusedVariables false
set_option linter.unusedSimpArgs false
namespace Go.Proofs.Ytjokkmhndahnkaa
open Go.RowKit

theorem listP_some {most : Int} {l : List PRun} (h : listP most l ≠ []) : ¬ most < 0 ∧ ¬ most < countI l ∧ (∀ x ∈ l, runI x = true) ∧ listP most l = listI l := by
  unfold listP at h ⊢
  by_cases h1 : most < 0
  · rw [if_pos h1] at h; exact absurd rfl h
  · rw [if_neg h1] at h ⊢
    by_cases h2 : most < countI l
    · rw [if_pos h2] at h; exact absurd rfl h
    · rw [if_neg h2] at h ⊢
      cases h3 : l.all runI
      · rw [h3] at h; exact absurd rfl h
      · exact ⟨h1, h2, List.all_eq_true.1 h3, rfl⟩
theorem listP_len {most : Int} {l : List PRun} (hm : most ≤ 300) : (listP most l).length ≤ 300 := by
  by_cases h : listP most l = []
  · rw [h]; simp
  · obtain ⟨h1, h2, h3, h4⟩ := listP_some h
    have h5 := listI_len h3
    rw [h4]
    have h6 : sumI l ≤ 300 := by unfold countI at h2; omega
    omega
theorem rows_sorted {l : List PRun} (h : rowsI l = true) : SortedOf (listI l) (listI l) := SortedOf.self (rowsF_asc h) (rowsF_may h)

set_option maxRecDepth 20000 in
set_option maxHeartbeats 2000000 in
theorem identLists_any (most : Int) (hmo : InR .i64 most) (v : Value) (l : List PRun) (w : World) (hl : Sl kRun w (Old w) v l) : Calls Try.prog 5 #[.int .i64 most, v] w fun e w' => e = .returned (.bool true) ∧ Kept No w w' := by
  have haw := fun W => awake_any W
  have hm := inr_i64.1 hmo
  clear hmo
  obtain ⟨A, c, rfl, hc1, hc2⟩ := hl.slice
  simp only [maxLen] at hc2
  by_cases hbig : 30 < l.length
  · obtain ⟨n, hn⟩ : ∃ n, n = l.length := ⟨_, rfl⟩
    rw [← hn] at hbig hc1 ⊢
    clear hn hl
    go_enter Try.func5, Try.ntmps5
    go_wp2_with (go_at_call 8; ((with_reducible refine (haw _).mono ?_); rintro e w1 ⟨rfl, hk1⟩))
    go_ret
    exact ⟨rfl, hk1⟩
  · by_cases hmb : 300 < most
    · obtain ⟨n, hn⟩ : ∃ n, n = l.length := ⟨_, rfl⟩
      rw [← hn] at hbig hc1 ⊢
      clear hn hl
      go_enter Try.func5, Try.ntmps5
      go_wp2_with (go_at_call 8; ((with_reducible refine (haw _).mono ?_); rintro e w1 ⟨rfl, hk1⟩))
      go_ret
      exact ⟨rfl, hk1⟩
    · have hm300 : most ≤ 300 := by omega
      obtain ⟨n, hn⟩ : ∃ n, n = l.length := ⟨_, rfl⟩
      have hL := list_op most (.slice A l.length c) l w _ hl ⟨hm.1, hm300⟩
      rw [← hn] at hbig hc1 hL hl ⊢
      obtain ⟨L, hLL⟩ : ∃ L, L = listP most l := ⟨_, rfl⟩
      have hlen : L.length ≤ 300 := by rw [hLL]; exact listP_len hm300
      rw [← hLL] at hL
      have H0 : Hid (L = listP most l ∧ L.length ≤ 300 ∧ Sl kRun w (Old w) (.slice A n c) l ∧ (-9223372036854775808 ≤ most ∧ most ≤ 300)) := ⟨hLL, hlen, hl, hm.1, hm300⟩
      clear hn hl hlen hm
      cases hz : L with
      | nil =>
        subst hz
        clear hLL
        go_enter Try.func5, Try.ntmps5
        go_wp2_with (first
        | (go_at_call 15; ((with_reducible refine hL.mono ?_); rintro e w1 ⟨v1, rfl, ht1, hf1, hk1⟩; have hR := list_ref most (.slice A n c) l w1 _ (H0.out.2.2.1.new hk1) H0.out.2.2.2; rw [← H0.out.1] at hR; have H1 : Hid (Kept No w w1 ∧ TW kID 33 w1 No v1 ([] : List PID)) := ⟨hk1, ht1⟩; clear hL ht1 hf1 hk1))
        | (go_at_call 12; ((with_reducible refine hR.mono ?_); rintro e w2 ⟨v2, rfl, ht2, hf2, hk2⟩; obtain ⟨B, d, rfl, hd1, hd2⟩ := ht2.slice; have hE := same_ids v1 _ ([] : List PID) [] w2 _ _ (H1.out.2.new hk2).slOld ht2.slOld; rw [decide_eq_true rfl] at hE; simp only [List.length_nil] at hE ⊢; have H2 : Hid (Kept No w w2 ∧ TW kID 33 w2 No v1 ([] : List PID)) := ⟨H1.out.1.trans hk2, H1.out.2.new hk2⟩; clear hR ht2 hf2 hk2 hd1 hd2))
        | (go_at_call 11; ((with_reducible refine hE.mono ?_); rintro e w3 ⟨rfl, hk3⟩; have H3 : Hid (Kept No w w3 ∧ TW kID 33 w3 No v1 ([] : List PID)) := ⟨H2.out.1.trans hk3, H2.out.2.new hk3⟩; clear hE hk3))
        | (go_at_call 8; ((with_reducible refine (haw _).mono ?_); rintro e w8 ⟨rfl, hk8⟩)))
        go_ret
        exact ⟨rfl, H3.out.1.trans hk8⟩
      | cons a L2 =>
        have hne : listP most l ≠ [] := by rw [← hLL, hz]; simp
        obtain ⟨_, _, _, h4⟩ := listP_some hne
        have hLI : L = listI l := hLL.trans h4
        obtain ⟨m, hm⟩ : ∃ m, L.length = m + 1 := ⟨L2.length, by rw [hz]; rfl⟩
        have HM : Hid (L.length = m + 1 ∧ L = listI l) := ⟨hm, hLI⟩
        clear hz hne h4 hLI hm hLL
        obtain ⟨r, hr⟩ : ∃ r, r = rowsI l := ⟨_, rfl⟩
        have HR : Hid (r = rowsI l) := hr
        clear hr
        cases r
        · go_enter Try.func5, Try.ntmps5
          go_wp2_with (first
          | (go_at_call 15; ((with_reducible refine hL.mono ?_); rintro e w1 ⟨v1, rfl, ht1, hf1, hk1⟩; have hR := list_ref most (.slice A n c) l w1 _ (H0.out.2.2.1.new hk1) H0.out.2.2.2; rw [← H0.out.1] at hR; have H1 : Hid (Kept No w w1 ∧ TW kID 33 w1 No v1 L) := ⟨hk1, ht1⟩; clear hL ht1 hf1 hk1))
          | (go_at_call 12; ((with_reducible refine hR.mono ?_); rintro e w2 ⟨v2, rfl, ht2, hf2, hk2⟩; obtain ⟨B, d, rfl, hd1, hd2⟩ := ht2.slice; have hE := same_ids v1 _ L L w2 _ _ (H1.out.2.new hk2).slOld ht2.slOld; rw [decide_eq_true rfl] at hE; have H2 : Hid (Kept No w w2 ∧ TW kID 33 w2 No v1 L) := ⟨H1.out.1.trans hk2, H1.out.2.new hk2⟩; clear hR ht2 hf2 hk2 hd1 hd2; rw [HM.out.1] at hE ⊢))
          | (go_at_call 11; ((with_reducible refine hE.mono ?_); rintro e w3 ⟨rfl, hk3⟩; have H3 : Hid (Kept No w w3 ∧ TW kID 33 w3 No v1 L) := ⟨H2.out.1.trans hk3, H2.out.2.new hk3⟩; clear hE hk3; have hRow := rows_ref (.slice A n c) l w3 _ (H0.out.2.2.1.new H3.out.1); rw [← HR.out] at hRow))
          | (go_at_call 10; ((with_reducible refine hRow.mono ?_); rintro e w4 ⟨rfl, hk4⟩; have H4 : Hid (Kept No w w4) := H3.out.1.trans hk4; clear hRow hk4))
          | (go_at_call 8; ((with_reducible refine (haw _).mono ?_); rintro e w8 ⟨rfl, hk8⟩)))
          go_ret
          exact ⟨rfl, H4.out.trans hk8⟩
        · go_enter Try.func5, Try.ntmps5
          go_wp2_with (first
          | (go_at_call 15; ((with_reducible refine hL.mono ?_); rintro e w1 ⟨v1, rfl, ht1, hf1, hk1⟩; have hR := list_ref most (.slice A n c) l w1 _ (H0.out.2.2.1.new hk1) H0.out.2.2.2; rw [← H0.out.1] at hR; have H1 : Hid (Kept No w w1 ∧ TW kID 33 w1 No v1 L) := ⟨hk1, ht1⟩; clear hL ht1 hf1 hk1))
          | (go_at_call 12; ((with_reducible refine hR.mono ?_); rintro e w2 ⟨v2, rfl, ht2, hf2, hk2⟩; obtain ⟨B, d, rfl, hd1, hd2⟩ := ht2.slice; have hE := same_ids v1 _ L L w2 _ _ (H1.out.2.new hk2).slOld ht2.slOld; rw [decide_eq_true rfl] at hE; have H2 : Hid (Kept No w w2 ∧ TW kID 33 w2 No v1 L) := ⟨H1.out.1.trans hk2, H1.out.2.new hk2⟩; clear hR ht2 hf2 hk2 hd1 hd2; rw [HM.out.1] at hE ⊢))
          | (go_at_call 11; ((with_reducible refine hE.mono ?_); rintro e w3 ⟨rfl, hk3⟩; have H3 : Hid (Kept No w w3 ∧ TW kID 33 w3 No v1 L) := ⟨H2.out.1.trans hk3, H2.out.2.new hk3⟩; clear hE hk3; have hRow := rows_ref (.slice A n c) l w3 _ (H0.out.2.2.1.new H3.out.1); rw [← HR.out] at hRow))
          | (go_at_call 10; ((with_reducible refine hRow.mono ?_); rintro e w4 ⟨rfl, hk4⟩; have hJ := join_op v1 L w4 _ (H3.out.2.new hk4).slOld (H3.out.2.new hk4).lt2 (by have := H0.out.2.1; omega); have H4 : Hid (Kept No w w4) := H3.out.1.trans hk4; clear hRow hk4))
          | (go_at_call 9; ((with_reducible refine hJ.mono ?_); rintro e w5 ⟨v5, s, rfl, hs, ht5, hf5, hk5⟩; rw [HM.out.2] at hs; rw [hs.unique (rows_sorted HR.out.symm), joinI_listI HR.out.symm] at ht5; have hE2 := same_runs v5 (.slice A n c) l l w5 _ _ ht5.slOld (H0.out.2.2.1.new (H4.out.trans hk5)); rw [decide_eq_true rfl] at hE2; have H5 : Hid (Kept No w w5) := H4.out.trans hk5; clear hJ hs ht5 hf5 hk5))
          | (go_at_call 16; ((with_reducible refine hE2.mono ?_); rintro e w6 ⟨rfl, hk6⟩; have H6 : Hid (Kept No w w6) := H5.out.trans hk6; clear hE2 hk6))
          | (go_at_call 8; ((with_reducible refine (haw _).mono ?_); rintro e w8 ⟨rfl, hk8⟩)))
          go_ret
          exact ⟨rfl, H6.out.trans hk8⟩
end Go.Proofs.Ytjokkmhndahnkaa
