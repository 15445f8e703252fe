/- The package ident, ninth part: Sort of the reference. -/
import Derived.Test.YtjokkmhndahnkaaI8
set_option linter.unusedVariables false
set_option linter.unusedSimpArgs false
namespace Go.Proofs.Ytjokkmhndahnkaa
open Go.RowKit

def sliceLen : Value → Nat
  | .slice _ n _ => n
  | _ => 0
/-- The place of the least id that may be and isn't in os, among the first k. -/
def BestAt (xs os : List PID) (k : Nat) (best : Int) : Prop :=
  (best = -1 ∧ ∀ (j : Nat) x, j < k → xs[j]? = some x → may64 x = true → x ∈ os) ∨
  (∃ (i : Nat) (y : PID), best = i ∧ i < k ∧ xs[i]? = some y ∧ may64 y = true ∧ y ∉ os ∧ ∀ (j : Nat) x, j < k → xs[j]? = some x → may64 x = true → x ∉ os → lessI x y = false)
theorem BestAt.skip {xs os : List PID} {k : Nat} {best : Int} {x : PID} (h : BestAt xs os k best) (hx : xs[k]? = some x) (hs : may64 x = false ∨ x ∈ os) : BestAt xs os (k + 1) best := by
  have key : ∀ (j : Nat) z, j < k + 1 → xs[j]? = some z → may64 z = true → z ∉ os → j < k := fun j z hj hz hm hn => by
    rcases Nat.lt_or_ge j k with h | h
    · exact h
    · have : j = k := by omega
      subst this
      rw [hx] at hz
      injection hz with hz
      subst hz
      rcases hs with hs | hs
      · rw [hm] at hs; cases hs
      · exact absurd hs hn
  rcases h with ⟨h1, h2⟩ | ⟨i, y, h1, h2, h3, h4, h5, h6⟩
  · refine .inl ⟨h1, fun j z hj hz hm => ?_⟩
    by_cases hn : z ∈ os
    · exact hn
    · exact h2 j z (key j z hj hz hm hn) hz hm
  · exact .inr ⟨i, y, h1, by omega, h3, h4, h5, fun j z hj hz hm hn => h6 j z (key j z hj hz hm hn) hz hm hn⟩
theorem BestAt.keep {xs os : List PID} {k i : Nat} {x y : PID} (h : BestAt xs os k (i : Int)) (hx : xs[k]? = some x) (hy : xs[i]? = some y) (hl : lessI x y = false) : BestAt xs os (k + 1) (i : Int) := by
  rcases h with ⟨h1, _⟩ | ⟨i', y', h1, h2, h3, h4, h5, h6⟩
  · omega
  · have : i' = i := by omega
    subst this
    rw [hy] at h3
    injection h3 with h3
    subst h3
    refine .inr ⟨i', y, rfl, by omega, hy, h4, h5, fun j z hj hz hm hn => ?_⟩
    rcases Nat.lt_or_ge j k with h | h
    · exact h6 j z h hz hm hn
    · have : j = k := by omega
      subst this
      rw [hx] at hz
      injection hz with hz
      subst hz
      exact hl
theorem BestAt.take {xs os : List PID} {k : Nat} {best : Int} {x : PID} (h : BestAt xs os k best) (hx : xs[k]? = some x) (hm : may64 x = true) (hn : x ∉ os) (hl : best < 0 ∨ ∃ (i : Nat) (y : PID), best = i ∧ xs[i]? = some y ∧ lessI x y = true) : BestAt xs os (k + 1) (k : Int) := by
  refine .inr ⟨k, x, rfl, by omega, hx, hm, hn, fun j z hj hz hmz hnz => ?_⟩
  rcases Nat.lt_or_ge j k with hjk | hjk
  · rcases h with ⟨h1, h2⟩ | ⟨i, y, h1, h2, h3, h4, h5, h6⟩
    · exact absurd (h2 j z hjk hz hmz) hnz
    · rcases hl with hl | ⟨i', y', e1, e2, e3⟩
      · omega
      · have : i' = i := by omega
        subst this
        rw [e2] at h3
        injection h3 with h3
        subst h3
        have h7 := h6 j z hjk hz hmz hnz
        cases h8 : lessI z x
        · rfl
        · rw [lessI_trans h8 e3] at h7; cases h7
  · have : j = k := by omega
    subst this
    rw [hx] at hz
    injection hz with hz
    subst hz
    exact lessI_irr x
/-- os is a begin of the ids of xs that may be, in order. -/
structure Front (xs os : List PID) : Prop where
  asc : Asc os
  sub : ∀ a ∈ os, a ∈ xs ∧ may64 a = true
  all : ∀ a ∈ xs, may64 a = true → a ∉ os → ∀ b ∈ os, lessI b a = true
theorem Front.nil (xs : List PID) : Front xs [] := ⟨List.Pairwise.nil, by simp, by simp⟩
theorem Front.done {xs os : List PID} {n : Nat} (h : Front xs os) (hn : xs.length ≤ n) (hb : ∀ (j : Nat) x, j < n → xs[j]? = some x → may64 x = true → x ∈ os) : SortedOf xs os := by
  refine ⟨h.asc, fun a => ⟨h.sub a, fun ha => ?_⟩⟩
  obtain ⟨j, hj⟩ := List.mem_iff_getElem?.1 ha.1
  exact hb j a (by have := (List.getElem?_eq_some_iff.1 hj).1; omega) hj ha.2
theorem Front.next {xs os : List PID} {n i : Nat} {y : PID} (h : Front xs os) (hn : xs.length ≤ n) (hi : xs[i]? = some y) (hm : may64 y = true) (hno : y ∉ os) (hb : ∀ (j : Nat) x, j < n → xs[j]? = some x → may64 x = true → x ∉ os → lessI x y = false) : Front xs (os ++ [y]) := by
  have hy := List.mem_of_getElem? hi
  refine ⟨?_, ?_, ?_⟩
  · unfold Asc
    rw [List.pairwise_append]
    refine ⟨h.asc, by simp, fun a ha b hb2 => ?_⟩
    rw [List.mem_singleton.1 hb2]
    exact h.all y hy hm hno a ha
  · intro a ha
    rcases List.mem_append.1 ha with ha | ha
    · exact h.sub a ha
    · rw [List.mem_singleton.1 ha]; exact ⟨hy, hm⟩
  · intro a ha hma hna b hb2
    rw [List.mem_append, not_or] at hna
    rcases List.mem_append.1 hb2 with hb2 | hb2
    · exact h.all a ha hma hna.1 b hb2
    · rw [List.mem_singleton.1 hb2]
      obtain ⟨j, hj⟩ := List.mem_iff_getElem?.1 ha
      have h1 := hb j a (by have := (List.getElem?_eq_some_iff.1 hj).1; omega) hj hma hna.1
      cases h2 : lessI y a
      · have := lessI_total h1 h2
        exact absurd (by rw [this]; simp) hna.2
      · rfl
theorem Front.len {xs os : List PID} (h : Front xs os) : os.length ≤ xs.length := h.asc.len_le fun a ha => (h.sub a ha).1

set_option maxRecDepth 20000 in
set_option maxHeartbeats 2000000 in
theorem sort_ref (v : Value) (xs : List PID) (w : World) (F : Nat → Prop) (hv : Sl kID w F v xs) (hm : xs.length ≤ 300) :
    Calls Try.prog 13 #[v] w fun e w' => ∃ v' s, e = .returned v' ∧ SortedOf xs s ∧ TW kID 33 w' No v' s ∧ Fresh w v' ∧ Kept No w w' := by
  have k0 : Kept No w (w.alloc (.cells #[] 33)) := (Kept.refl _ _).alloc _
  have ht0 : TW kID 33 (w.alloc (.cells #[] 33)) No (.slice (some ⟨w.heap.size, 0, none⟩) 0 0) [] := TW.empty (heap_alloc_new _ _) id
  have hf0 : Fresh w (.slice (some ⟨w.heap.size, 0, none⟩) 0 0) := fun k hk => by simp [Value.ownBlock] at hk; omega
  obtain ⟨A, c0, rfl, hc1, hc2⟩ := hv.slice
  simp only [maxLen] at hc2
  obtain ⟨n, hn⟩ : ∃ n, n = xs.length := ⟨_, rfl⟩
  rw [← hn] at hc1 hm ⊢
  have H0 : Hid (Kept No w (w.alloc (.cells #[] 33)) ∧ TW kID 33 (w.alloc (.cells #[] 33)) No (.slice (some ⟨w.heap.size, 0, none⟩) 0 0) [] ∧ Fresh w (.slice (some ⟨w.heap.size, 0, none⟩) 0 0) ∧ n = xs.length ∧ Sl kID w F (.slice A xs.length c0) xs) := ⟨k0, ht0, hf0, hn, hv⟩
  clear k0 ht0 hf0 hn hv
  go_enter Try.func13, Try.ntmps13
  go_wp2
  go_loopw [3] (fun o wr => ∃ os, TW kID 33 wr No o os ∧ Fresh w o ∧ Kept No w wr ∧ Front xs os) (fun o _ => n + 1 - sliceLen o)
  case atStart => exact ⟨[], H0.out.2.1, H0.out.2.2.1, H0.out.1, Front.nil _⟩
  case round =>
    obtain ⟨os, htw, hfr, hke, hfront⟩ := hrel
    obtain ⟨B, d, rfl, hd1, hd2⟩ := htw.slice
    simp only [maxLen] at hd2
    obtain ⟨m, hmm⟩ : ∃ m, m = os.length := ⟨_, rfl⟩
    rw [← hmm] at hd1 htw hfr ⊢
    have hmn : m ≤ n := by rw [hmm, H0.out.2.2.2.1]; exact hfront.len
    have H1 : Hid (TW kID 33 wr No (.slice B m d) os ∧ Fresh w (.slice B m d) ∧ Kept No w wr ∧ Front xs os ∧ m = os.length) := ⟨htw, hfr, hke, hfront, hmm⟩
    clear hmm htw hfr hke hfront
    go_wp2
    go_loopw [4, 14] (fun best i wi => ∃ k : Nat, ∃ bi : Int, k ≤ n ∧ i = .int .i64 k ∧ best = .int .i64 bi ∧ BestAt xs os k bi ∧ Kept No wr wi) (fun _ i _ => n - (intOf i).toNat)
    case atStart => exact ⟨0, -1, Nat.zero_le _, by first | rfl | trivial, by first | rfl | trivial, .inl ⟨rfl, fun j x hj => absurd hj (Nat.not_lt_zero _)⟩, Kept.refl _ _⟩
    case round =>
      obtain ⟨k, bi, hk, rfl, rfl, hbest, hki⟩ := hrel
      by_cases hlt : k < n
      · obtain ⟨x, hx⟩ : ∃ x, xs[k]? = some x := ⟨_, List.getElem?_eq_getElem (by rw [← H0.out.2.2.2.1]; exact hlt)⟩
        rcases sl_ids H0.out.2.2.2.2 with ⟨e, _⟩ | ⟨_, _, b, off, c', e, _, _, _, _, hcx⟩
        · rw [e] at hx; simp at hx
        · simp only [Value.slice.injEq] at e
          obtain ⟨rfl, _, rfl⟩ := e
          obtain ⟨hok, hcell⟩ := hcx k x hx
          obtain ⟨x1, x2⟩ := x
          simp only at hcell
          have hokb := okID_iff.1 hok
          simp only at hokb
          have HC : Hid (∀ W, Kept No wr W → ∀ i u, [Value.int .u8 x1, .int .u64 x2][i]? = some u → W.cell? ⟨b, off + k * 2 + i, none⟩ = some u) := fun W hW i u hu => ((H1.out.2.2.1.trans hki).trans hW).cell (hcell i u hu) id
          have HD : Hid (∀ (W : World) (j : Nat) y, Kept No wr W → xs[j]? = some y → ∀ i u, [Value.int .u8 y.1, .int .u64 y.2][i]? = some u → W.cell? ⟨b, off + j * 2 + i, none⟩ = some u) := fun W j y hW hy i u hu => ((H1.out.2.2.1.trans hki).trans hW).cell ((hcx j y hy).2 i u hu) id
          have hmay := fun W => may_ref x1 x2 64 W hokb.1 hokb.2.1
          obtain ⟨mv, hmv⟩ : ∃ mv, mv = may64 (x1, x2) := ⟨_, rfl⟩
          rw [show mayP 64 (x1, x2) = mv from hmv.symm] at hmay
          have HN : Hid (xs[k]? = some (x1, x2) ∧ Kept No _ wr ∧ BestAt xs os k bi ∧ mv = may64 (x1, x2)) := ⟨hx, hki, hbest, hmv⟩
          obtain ⟨iv, hiv⟩ : ∃ iv, iv = decide ((x1, x2) ∈ os) := ⟨_, rfl⟩
          have HI : Hid (iv = decide ((x1, x2) ∈ os)) := hiv
          have HBB := hbest
          clear hok hcell hcx hokb hmv hiv hx hki
          cases mv
          · clear HBB hbest
            go_wp2
            refine wp_region_plan No (.pur 0 (.pur 1 (.pur 2 (.rd 3 (.grow 4 (.pur 5 (.pur 6 (.pur 7 (.pur 8 (.pur 9 (.rd 10 (.grow 11 (.pur 12 (.pur 13 (.pur 14 (.pur 15 (.pur 16 (.pur 17 (.pur 18 (.pur 19 (.pur 20 (.pur 22 (.pur 23 (.pur 24 (.rd 21 (.rd 25 (.grow 26 (.pur 27 (.pur 28 .fin))))))))))))))))))))))))))))) [] mixed (by kernel_rfl) ?_
            repeat ((first | refine pl_pur (by simp only [List.getD_cons_succ, List.getD_cons_zero]; rfl) _ (by rfl) (fun W => by go_simp; with_reducible rfl) ?_ | refine pl_rd (by simp only [List.getD_cons_succ, List.getD_cons_zero]; rfl) _ (by rfl) (fun W hW => by have hc := kcell hW; clear hW; go_simp; with_reducible rfl) ?_); simp only [Act.put, List.setIfInBounds_toArray, List.set_cons_zero, List.set_cons_succ])
            refine pl_loadw (by simp only [List.getD_cons_succ, List.getD_cons_zero]; rfl) (by rfl) (.tmp 19) 33 (by rfl) b (off + k * 2) (by rfl) _ agg33 (HC.out _ ((Kept.refl _ _).drew)) (fun h => h) ?_
            simp only [Act.put, List.setIfInBounds_toArray, List.set_cons_zero, List.set_cons_succ]
            refine pl_grow (by simp only [List.getD_cons_succ, List.getD_cons_zero]; rfl) ?_
            go_wp2_with (go_at_call 18; ((with_reducible refine (hmay _).mono ?_); rintro e w2 ⟨rfl, hk2⟩))
            refine GPost.mk hk2 ?_
            repeat ((first | refine pl_pur (by simp only [List.getD_cons_succ, List.getD_cons_zero]; rfl) _ (by rfl) (fun W => by go_simp; with_reducible rfl) ?_ | refine pl_rd (by simp only [List.getD_cons_succ, List.getD_cons_zero]; rfl) _ (by rfl) (fun W hW => by have hc := kcell hW; clear hW; go_simp; with_reducible rfl) ?_ | refine pl_skip (by simp only [List.getD_cons_succ, List.getD_cons_zero]; rfl) (by rfl) ?_ | refine pl_skip_rd (by simp only [List.getD_cons_succ, List.getD_cons_zero]; rfl) (by rfl) ?_ | refine pl_skip_grow (by simp only [List.getD_cons_succ, List.getD_cons_zero]; rfl) (by rfl) ?_ | refine pl_skip_act (by simp only [List.getD_cons_succ, List.getD_cons_zero]; rfl) (by rfl) ?_); simp only [Act.put, List.setIfInBounds_toArray, List.set_cons_zero, List.set_cons_succ])
            refine pl_fin ?_
            go_wp2
            go_roundw
            case rel => exact ⟨k + 1, bi, by omega, by go_num, by first | rfl | trivial, HN.out.2.2.1.skip HN.out.1 (.inl HN.out.2.2.2.symm), (HN.out.2.1.drew).trans hk2⟩
            case measure => simp [intOf]; omega
          · cases iv
            · rcases HBB with ⟨rfl, _⟩ | ⟨bj, y, rfl, hbj, hy, _, _, _⟩
              · clear hbest
                go_wp2
                refine wp_region_plan No (.pur 0 (.pur 1 (.pur 2 (.rd 3 (.grow 4 (.pur 5 (.pur 6 (.pur 7 (.pur 8 (.pur 9 (.rd 10 (.grow 11 (.pur 12 (.pur 13 (.pur 14 (.pur 15 (.pur 16 (.pur 17 (.pur 18 (.pur 19 (.pur 20 (.pur 22 (.pur 23 (.pur 24 (.rd 21 (.rd 25 (.grow 26 (.pur 27 (.pur 28 .fin))))))))))))))))))))))))))))) [] mixed (by kernel_rfl) ?_
                repeat ((first | refine pl_pur (by simp only [List.getD_cons_succ, List.getD_cons_zero]; rfl) _ (by rfl) (fun W => by go_simp; with_reducible rfl) ?_ | refine pl_rd (by simp only [List.getD_cons_succ, List.getD_cons_zero]; rfl) _ (by rfl) (fun W hW => by have hc := kcell hW; clear hW; go_simp; with_reducible rfl) ?_); simp only [Act.put, List.setIfInBounds_toArray, List.set_cons_zero, List.set_cons_succ])
                refine pl_loadw (by simp only [List.getD_cons_succ, List.getD_cons_zero]; rfl) (by rfl) (.tmp 19) 33 (by rfl) b (off + k * 2) (by rfl) _ agg33 (HC.out _ ((Kept.refl _ _).drew)) (fun h => h) ?_
                simp only [Act.put, List.setIfInBounds_toArray, List.set_cons_zero, List.set_cons_succ]
                refine pl_grow (by simp only [List.getD_cons_succ, List.getD_cons_zero]; rfl) ?_
                go_wp2_with (go_at_call 18; ((with_reducible refine (hmay _).mono ?_); rintro e w2 ⟨rfl, hk2⟩))
                refine GPost.mk hk2 ?_
                have K2 : Hid (Kept No wr w2) := (Kept.refl _ _).drew.trans hk2
                clear hk2
                repeat ((first | refine pl_pur (by simp only [List.getD_cons_succ, List.getD_cons_zero]; rfl) _ (by rfl) (fun W => by go_simp; with_reducible rfl) ?_ | refine pl_rd (by simp only [List.getD_cons_succ, List.getD_cons_zero]; rfl) _ (by rfl) (fun W hW => by have hc := kcell hW; clear hW; go_simp; with_reducible rfl) ?_); simp only [Act.put, List.setIfInBounds_toArray, List.set_cons_zero, List.set_cons_succ])
                refine pl_loadw (by simp only [List.getD_cons_succ, List.getD_cons_zero]; rfl) (by rfl) (.tmp 26) 33 (by rfl) b (off + k * 2) (by rfl) _ agg33 (HC.out _ K2.out) (fun h => h) ?_
                simp only [Act.put, List.setIfInBounds_toArray, List.set_cons_zero, List.set_cons_succ]
                refine pl_grow (by simp only [List.getD_cons_succ, List.getD_cons_zero]; rfl) ?_
                have hin := in_ref (.slice B m d) os (x1, x2) w2 _ ((H1.out.1.new (HN.out.2.1.trans K2.out)).sl)
                rw [← HI.out] at hin
                simp only at hin
                go_wp2_with (go_at_call 35; ((with_reducible refine hin.mono ?_); rintro e w3 ⟨rfl, hk3⟩))
                refine GPost.mk hk3 ?_
                have K3 : Hid (Kept No wr w3) := K2.out.trans hk3
                clear hk3 hin
                repeat ((first | refine pl_pur (by simp only [List.getD_cons_succ, List.getD_cons_zero]; rfl) _ (by rfl) (fun W => by go_simp; with_reducible rfl) ?_ | refine pl_rd (by simp only [List.getD_cons_succ, List.getD_cons_zero]; rfl) _ (by rfl) (fun W hW => by have hc := kcell hW; clear hW; go_simp; with_reducible rfl) ?_ | refine pl_skip (by simp only [List.getD_cons_succ, List.getD_cons_zero]; rfl) (by rfl) ?_ | refine pl_skip_rd (by simp only [List.getD_cons_succ, List.getD_cons_zero]; rfl) (by rfl) ?_ | refine pl_skip_grow (by simp only [List.getD_cons_succ, List.getD_cons_zero]; rfl) (by rfl) ?_ | refine pl_skip_act (by simp only [List.getD_cons_succ, List.getD_cons_zero]; rfl) (by rfl) ?_); simp only [Act.put, List.setIfInBounds_toArray, List.set_cons_zero, List.set_cons_succ])
                refine pl_fin ?_
                go_wp2
                go_roundw
                case rel => exact ⟨k + 1, k, by omega, by go_num, by first | rfl | trivial, HN.out.2.2.1.take HN.out.1 HN.out.2.2.2.symm (by have := HI.out; simpa using this) (.inl (by omega)), HN.out.2.1.trans K3.out⟩
                case measure => simp [intOf]; omega
              · obtain ⟨y1, y2⟩ := y
                have hbn : bj < n := by omega
                have hb0 : ¬ (bj : Int) < 0 := by omega
                have hbd : decide ((bj : Int) < 0) = false := decide_eq_false hb0
                obtain ⟨lv, hlv⟩ : ∃ lv, lv = lessI (x1, x2) (y1, y2) := ⟨_, rfl⟩
                have hless := fun W => less_ref x1 x2 y1 y2 W
                rw [← hlv] at hless
                have HL : Hid (lv = lessI (x1, x2) (y1, y2) ∧ xs[bj]? = some (y1, y2)) := ⟨hlv, hy⟩
                clear hbest hlv hy
                go_wp2
                refine wp_region_plan No (.pur 0 (.pur 1 (.pur 2 (.rd 3 (.grow 4 (.pur 5 (.pur 6 (.pur 7 (.pur 8 (.pur 9 (.rd 10 (.grow 11 (.pur 12 (.pur 13 (.pur 14 (.pur 15 (.pur 16 (.pur 17 (.pur 18 (.pur 19 (.pur 20 (.pur 22 (.pur 23 (.pur 24 (.rd 21 (.rd 25 (.grow 26 (.pur 27 (.pur 28 .fin))))))))))))))))))))))))))))) [] mixed (by kernel_rfl) ?_
                repeat ((first | refine pl_pur (by simp only [List.getD_cons_succ, List.getD_cons_zero]; rfl) _ (by rfl) (fun W => by go_simp; with_reducible rfl) ?_ | refine pl_rd (by simp only [List.getD_cons_succ, List.getD_cons_zero]; rfl) _ (by rfl) (fun W hW => by have hc := kcell hW; clear hW; go_simp; with_reducible rfl) ?_); simp only [Act.put, List.setIfInBounds_toArray, List.set_cons_zero, List.set_cons_succ])
                refine pl_loadw (by simp only [List.getD_cons_succ, List.getD_cons_zero]; rfl) (by rfl) (.tmp 19) 33 (by rfl) b (off + k * 2) (by rfl) _ agg33 (HC.out _ ((Kept.refl _ _).drew)) (fun h => h) ?_
                simp only [Act.put, List.setIfInBounds_toArray, List.set_cons_zero, List.set_cons_succ]
                refine pl_grow (by simp only [List.getD_cons_succ, List.getD_cons_zero]; rfl) ?_
                go_wp2_with (go_at_call 18; ((with_reducible refine (hmay _).mono ?_); rintro e w2 ⟨rfl, hk2⟩))
                refine GPost.mk hk2 ?_
                have K2 : Hid (Kept No wr w2) := (Kept.refl _ _).drew.trans hk2
                clear hk2
                repeat ((first | refine pl_pur (by simp only [List.getD_cons_succ, List.getD_cons_zero]; rfl) _ (by rfl) (fun W => by go_simp; with_reducible rfl) ?_ | refine pl_rd (by simp only [List.getD_cons_succ, List.getD_cons_zero]; rfl) _ (by rfl) (fun W hW => by have hc := kcell hW; clear hW; go_simp; with_reducible rfl) ?_); simp only [Act.put, List.setIfInBounds_toArray, List.set_cons_zero, List.set_cons_succ])
                refine pl_loadw (by simp only [List.getD_cons_succ, List.getD_cons_zero]; rfl) (by rfl) (.tmp 26) 33 (by rfl) b (off + k * 2) (by rfl) _ agg33 (HC.out _ K2.out) (fun h => h) ?_
                simp only [Act.put, List.setIfInBounds_toArray, List.set_cons_zero, List.set_cons_succ]
                refine pl_grow (by simp only [List.getD_cons_succ, List.getD_cons_zero]; rfl) ?_
                have hin := in_ref (.slice B m d) os (x1, x2) w2 _ ((H1.out.1.new (HN.out.2.1.trans K2.out)).sl)
                rw [← HI.out] at hin
                simp only at hin
                go_wp2_with (go_at_call 35; ((with_reducible refine hin.mono ?_); rintro e w3 ⟨rfl, hk3⟩))
                refine GPost.mk hk3 ?_
                have K3 : Hid (Kept No wr w3) := K2.out.trans hk3
                clear hk3 hin
                repeat ((first | refine pl_pur (by simp only [List.getD_cons_succ, List.getD_cons_zero]; rfl) _ (by rfl) (fun W => by go_simp; with_reducible rfl) ?_ | refine pl_rd (by simp only [List.getD_cons_succ, List.getD_cons_zero]; rfl) _ (by rfl) (fun W hW => by have hc := kcell hW; clear hW; go_simp; with_reducible rfl) ?_); simp only [Act.put, List.setIfInBounds_toArray, List.set_cons_zero, List.set_cons_succ])
                refine pl_loadw (by simp only [List.getD_cons_succ, List.getD_cons_zero]; rfl) (by rfl) (.tmp 37) 33 (by rfl) b (off + k * 2) (by rfl) _ agg33 (HC.out _ K3.out) (fun h => h) ?_
                simp only [Act.put, List.setIfInBounds_toArray, List.set_cons_zero, List.set_cons_succ]
                refine pl_loadw (by simp only [List.getD_cons_succ, List.getD_cons_zero]; rfl) (by rfl) (.tmp 41) 33 (by rfl) b (off + bj * 2) (by rfl) _ agg33 (HD.out _ bj (y1, y2) K3.out HL.out.2) (fun h => h) ?_
                simp only [Act.put, List.setIfInBounds_toArray, List.set_cons_zero, List.set_cons_succ]
                refine pl_grow (by simp only [List.getD_cons_succ, List.getD_cons_zero]; rfl) ?_
                go_wp2_with (go_at_call 19; ((with_reducible refine (hless _).mono ?_); rintro e w4 ⟨rfl, hk4⟩))
                refine GPost.mk hk4 ?_
                repeat ((first | refine pl_pur (by simp only [List.getD_cons_succ, List.getD_cons_zero]; rfl) _ (by rfl) (fun W => by go_simp; with_reducible rfl) ?_ | refine pl_rd (by simp only [List.getD_cons_succ, List.getD_cons_zero]; rfl) _ (by rfl) (fun W hW => by have hc := kcell hW; clear hW; go_simp; with_reducible rfl) ?_); simp only [Act.put, List.setIfInBounds_toArray, List.set_cons_zero, List.set_cons_succ])
                refine pl_fin ?_
                cases lv
                · go_wp2
                  go_roundw
                  case rel => exact ⟨k + 1, bj, by omega, by go_num, by first | rfl | trivial, HN.out.2.2.1.keep HN.out.1 HL.out.2 HL.out.1.symm, (HN.out.2.1.trans K3.out).trans hk4⟩
                  case measure => simp [intOf]; omega
                · go_wp2
                  go_roundw
                  case rel => exact ⟨k + 1, k, by omega, by go_num, by first | rfl | trivial, HN.out.2.2.1.take HN.out.1 HN.out.2.2.2.symm (by have := HI.out; simpa using this) (.inr ⟨bj, _, rfl, HL.out.2, HL.out.1.symm⟩), (HN.out.2.1.trans K3.out).trans hk4⟩
                  case measure => simp [intOf]; omega
            · clear HBB hbest
              go_wp2
              refine wp_region_plan No (.pur 0 (.pur 1 (.pur 2 (.rd 3 (.grow 4 (.pur 5 (.pur 6 (.pur 7 (.pur 8 (.pur 9 (.rd 10 (.grow 11 (.pur 12 (.pur 13 (.pur 14 (.pur 15 (.pur 16 (.pur 17 (.pur 18 (.pur 19 (.pur 20 (.pur 22 (.pur 23 (.pur 24 (.rd 21 (.rd 25 (.grow 26 (.pur 27 (.pur 28 .fin))))))))))))))))))))))))))))) [] mixed (by kernel_rfl) ?_
              repeat ((first | refine pl_pur (by simp only [List.getD_cons_succ, List.getD_cons_zero]; rfl) _ (by rfl) (fun W => by go_simp; with_reducible rfl) ?_ | refine pl_rd (by simp only [List.getD_cons_succ, List.getD_cons_zero]; rfl) _ (by rfl) (fun W hW => by have hc := kcell hW; clear hW; go_simp; with_reducible rfl) ?_); simp only [Act.put, List.setIfInBounds_toArray, List.set_cons_zero, List.set_cons_succ])
              refine pl_loadw (by simp only [List.getD_cons_succ, List.getD_cons_zero]; rfl) (by rfl) (.tmp 19) 33 (by rfl) b (off + k * 2) (by rfl) _ agg33 (HC.out _ ((Kept.refl _ _).drew)) (fun h => h) ?_
              simp only [Act.put, List.setIfInBounds_toArray, List.set_cons_zero, List.set_cons_succ]
              refine pl_grow (by simp only [List.getD_cons_succ, List.getD_cons_zero]; rfl) ?_
              go_wp2_with (go_at_call 18; ((with_reducible refine (hmay _).mono ?_); rintro e w2 ⟨rfl, hk2⟩))
              refine GPost.mk hk2 ?_
              have K2 : Hid (Kept No wr w2) := (Kept.refl _ _).drew.trans hk2
              clear hk2
              repeat ((first | refine pl_pur (by simp only [List.getD_cons_succ, List.getD_cons_zero]; rfl) _ (by rfl) (fun W => by go_simp; with_reducible rfl) ?_ | refine pl_rd (by simp only [List.getD_cons_succ, List.getD_cons_zero]; rfl) _ (by rfl) (fun W hW => by have hc := kcell hW; clear hW; go_simp; with_reducible rfl) ?_); simp only [Act.put, List.setIfInBounds_toArray, List.set_cons_zero, List.set_cons_succ])
              refine pl_loadw (by simp only [List.getD_cons_succ, List.getD_cons_zero]; rfl) (by rfl) (.tmp 26) 33 (by rfl) b (off + k * 2) (by rfl) _ agg33 (HC.out _ K2.out) (fun h => h) ?_
              simp only [Act.put, List.setIfInBounds_toArray, List.set_cons_zero, List.set_cons_succ]
              refine pl_grow (by simp only [List.getD_cons_succ, List.getD_cons_zero]; rfl) ?_
              have hin := in_ref (.slice B m d) os (x1, x2) w2 _ ((H1.out.1.new (HN.out.2.1.trans K2.out)).sl)
              rw [← HI.out] at hin
              simp only at hin
              go_wp2_with (go_at_call 35; ((with_reducible refine hin.mono ?_); rintro e w3 ⟨rfl, hk3⟩))
              refine GPost.mk hk3 ?_
              have K3 : Hid (Kept No wr w3) := K2.out.trans hk3
              clear hk3 hin
              repeat ((first | refine pl_pur (by simp only [List.getD_cons_succ, List.getD_cons_zero]; rfl) _ (by rfl) (fun W => by go_simp; with_reducible rfl) ?_ | refine pl_rd (by simp only [List.getD_cons_succ, List.getD_cons_zero]; rfl) _ (by rfl) (fun W hW => by have hc := kcell hW; clear hW; go_simp; with_reducible rfl) ?_ | refine pl_skip (by simp only [List.getD_cons_succ, List.getD_cons_zero]; rfl) (by rfl) ?_ | refine pl_skip_rd (by simp only [List.getD_cons_succ, List.getD_cons_zero]; rfl) (by rfl) ?_ | refine pl_skip_grow (by simp only [List.getD_cons_succ, List.getD_cons_zero]; rfl) (by rfl) ?_ | refine pl_skip_act (by simp only [List.getD_cons_succ, List.getD_cons_zero]; rfl) (by rfl) ?_); simp only [Act.put, List.setIfInBounds_toArray, List.set_cons_zero, List.set_cons_succ])
              refine pl_fin ?_
              go_wp2
              go_roundw
              case rel => exact ⟨k + 1, bi, by omega, by go_num, by first | rfl | trivial, HN.out.2.2.1.skip HN.out.1 (.inr (by have := HI.out; simpa using this)), HN.out.2.1.trans K3.out⟩
              case measure => simp [intOf]; omega
      · have hkn : k = n := by omega
        subst hkn
        have hxn : xs.length ≤ k := by rw [← H0.out.2.2.2.1]; exact Nat.le_refl _
        have HX : Hid (xs.length ≤ k ∧ Kept No _ wr) := ⟨hxn, hki⟩
        clear hxn hki
        rcases hbest with ⟨rfl, hall⟩ | ⟨bj, y, rfl, hbj, hy, hmy, hno, hmin⟩
        · have HA : Hid (∀ (j : Nat) x, j < k → xs[j]? = some x → may64 x = true → x ∈ os) := hall
          clear hall
          go_wp2
          go_ret
          exact ⟨_, os, rfl, H1.out.2.2.2.1.done HX.out.1 HA.out, H1.out.1.new HX.out.2, H1.out.2.1, H1.out.2.2.1.trans HX.out.2⟩
        · obtain ⟨y1, y2⟩ := y
          have hfn := H1.out.2.2.2.1.next HX.out.1 hy hmy hno hmin
          have hlen := hfn.len
          rw [← H0.out.2.2.2.1, List.length_append, ← H1.out.2.2.2.2, List.length_singleton] at hlen
          rcases sl_ids H0.out.2.2.2.2 with ⟨e, _⟩ | ⟨_, _, b, off, c', e, _, _, _, _, hcx⟩
          · rw [e] at hy; simp at hy
          · simp only [Value.slice.injEq] at e
            obtain ⟨rfl, _, rfl⟩ := e
            obtain ⟨hok, hcell⟩ := hcx bj _ hy
            simp only at hcell
            have HC : Hid (∀ i u, [Value.int .u8 y1, .int .u64 y2][i]? = some u → wr.cell? ⟨b, off + bj * 2 + i, none⟩ = some u) := fun i u hu => (H1.out.2.2.1.trans HX.out.2).cell (hcell i u hu) id
            have ka : Kept No wr (wr.alloc (.cells #[.int .u8 y1, .int .u64 y2] 33)) := (Kept.refl _ _).alloc _
            have hsr := src_new2 (w := wr) (N := wr.heap.size) (e := 33) (a := .int .u8 y1) (b := .int .u64 y2) rfl rfl rfl
            have HT : Hid (TW kID 33 (wr.alloc (.cells #[.int .u8 y1, .int .u64 y2] 33)) No (.slice B m d) os ∧ Src (wr.alloc (.cells #[.int .u8 y1, .int .u64 y2] 33)) (fun k => k = wr.heap.size) 2 (.slice (some ⟨wr.heap.size, 0, none⟩) 1 1) 1 [.int .u8 y1, .int .u64 y2] ∧ okID (y1, y2) ∧ Front xs (os ++ [(y1, y2)]) ∧ m = os.length ∧ m + 1 ≤ k) := ⟨(H1.out.1.new HX.out.2).new ka, hsr, hok, hfn, H1.out.2.2.2.2, hlen⟩
            clear hcell hcx hok hfn hlen hsr ka hy hmy hno hmin
            go_wp2_with (first | (with_reducible refine wpList_load_whole rfl (.tmp 54) 33 rfl b (off + bj * 2) rfl _ agg33 HC.out ?_) | (at_builtin; go_must (refine wpList_append_tw (d := kID) (G := No) (F := fun k' => k' = wr.heap.size) rfl (.tmp 51) (.tmp 56) 22 rfl 33 (.agg #[.int .u8 0, .int .u64 0]) 16 Try.underlying22 cinfo_ids rfl _ _ 1 os [(y1, y2)] [.int .u8 y1, .int .u64 y2] rfl HT.out.1 rfl HT.out.2.1 (reps_id HT.out.2.2.1) rfl (fun _ h => h.elim) ?_ ?_ ?_)))
            · have := HT.out.2.2.2.2; simp only [maxLen]; omega
            · have := HT.out.2.2.2.2; omega
            · intro v' w' htw2 hk2 hb2
              have HF : Hid (TW kID 33 w' No v' (os ++ [(y1, y2)]) ∧ Fresh w v' ∧ Kept No w w') := ⟨htw2, H1.out.2.1.next (w := wr.alloc (.cells #[.int .u8 y1, .int .u64 y2] 33)) (by have := (H1.out.2.2.1.trans HX.out.2).size; simp; omega) (by simpa using hb2), ((H1.out.2.2.1.trans HX.out.2).alloc _).fresh hk2 H1.out.2.1⟩
              obtain ⟨A2, c2, rfl, hs1, hs2⟩ := htw2.slice
              have hsl : (os ++ [(y1, y2)]).length = m + 1 := by rw [List.length_append, HT.out.2.2.2.2.1]; rfl
              rw [hsl] at HF ⊢
              clear htw2 hk2 hb2 hs1 hs2 hsl
              go_wp2
              go_roundw
              case rel => exact ⟨os ++ [(y1, y2)], HF.out.1, HF.out.2.1, HF.out.2.2, HT.out.2.2.2.1⟩
              case measure => simp [sliceLen]; omega
end Go.Proofs.Ytjokkmhndahnkaa
