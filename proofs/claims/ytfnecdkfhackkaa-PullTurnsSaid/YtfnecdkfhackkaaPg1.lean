/- The package pull, general: slices.Index, Contains, ring.of, ring.Way, the holders as a row of the call's own. -/
import Derived.Test.YtfnecdkfhackkaaPg0
set_option linter.unusedVariables false
set_option linter.unusedSimpArgs false
namespace Go.Proofs.Ytfnecdkfhackkaa
open Go.RowKit

theorem idxP_any {α : Type} (p : α → Bool) (xs : List α) : decide (0 ≤ idxP p xs) = xs.any p := by
  unfold idxP
  cases h : xs.findIdx? p with
  | none =>
    rw [List.findIdx?_eq_none_iff] at h
    have : xs.any p = false := by rw [List.any_eq_false]; intro x hx; simp [h x hx]
    rw [this]; simp
  | some i =>
    obtain ⟨hlt, hp, _⟩ := List.findIdx?_eq_some_iff_getElem.1 h
    have : xs.any p = true := List.any_eq_true.2 ⟨_, List.getElem_mem hlt, hp⟩
    rw [this]; simp
theorem index_any (v : Value) (xs : List Int) (p : Int) (w : World) (F : Nat → Prop) (hv : Sl (kI .i64) w F v xs) : Calls Try.prog 75 #[v, .int .i64 p] w fun e w' => e = .returned (.int .i64 (idxP (fun y => p == y) xs)) ∧ w = w' := by
  rcases hv.ints with ⟨rfl, A, c, rfl⟩ | ⟨h0, h1, b, off, c, rfl, h2, h3, hF, hb, hc⟩
  · go_enter Try.func75, Try.ntmps75
    go_wp2
    go_loopw [8] (fun i wr => i = .int .i64 0 ∧ w = wr) (fun _ _ => 0)
    case atStart => exact ⟨by first | rfl | trivial, by first | rfl | trivial⟩
    case round =>
      obtain ⟨rfl, rfl⟩ := hrel
      go_wp2
      go_ret
      exact ⟨rfl, rfl⟩
  · obtain ⟨n, hn⟩ : ∃ n, n = xs.length := ⟨_, rfl⟩
    rw [← hn] at h0 h1 h2 ⊢
    obtain ⟨R, hR⟩ : ∃ R, R = idxP (fun y => p == y) xs := ⟨_, rfl⟩
    rw [← hR]
    have HH : Hid (n = xs.length ∧ R = idxP (fun y => p == y) xs ∧ ∀ (j : Nat) x, xs[j]? = some x → w.cell? ⟨b, off + j, none⟩ = some (.int .i64 x)) := ⟨hn, hR, fun j x hx => (hc j x hx).1⟩
    clear hn hR hc hv
    go_enter Try.func75, Try.ntmps75
    go_wp2
    go_loopw [8] (fun i wr => ∃ k : Nat, k ≤ n ∧ i = .int .i64 k ∧ (∀ (j : Nat) y, j < k → xs[j]? = some y → (p == y) = false) ∧ w = wr) (fun i _ => n - (intOf i).toNat)
    case atStart => exact ⟨0, Nat.zero_le _, by first | rfl | trivial, fun _ _ h => absurd h (Nat.not_lt_zero _), by first | rfl | trivial⟩
    case round =>
      obtain ⟨k, hk, rfl, hno, rfl⟩ := hrel
      have HN : Hid (∀ (j : Nat) y, j < k → xs[j]? = some y → (p == y) = false) := hno
      clear hno
      by_cases hlt : k < n
      · obtain ⟨x, hx⟩ : ∃ x, xs[k]? = some x := ⟨_, List.getElem?_eq_getElem (by rw [← HH.out.1]; exact hlt)⟩
        have hcell := HH.out.2.2 k x hx
        have HX : Hid (xs[k]? = some x) := hx
        clear hx
        by_cases he : p = x
        · have hb1 : (p == x) = true := by rw [beq_iff_eq]; exact he
          have HE : Hid (p = x) := he
          clear he
          go_wp2
          go_ret
          exact ⟨ret_int (by rw [HH.out.2.1]; exact (idxP_hit (p := fun y => p == y) HX.out (by rw [beq_iff_eq]; exact HE.out) HN.out).symm), rfl⟩
        · have hb1 : (p == x) = false := by rw [beq_eq_false_iff_ne]; exact he
          have HE : Hid ((p == x) = false) := hb1
          clear he
          go_wp2
          go_roundw
          case rel =>
            refine ⟨k + 1, by omega, by go_num, fun j y hj hy => ?_, by first | rfl | trivial⟩
            rcases Nat.lt_or_ge j k with h | h
            · exact HN.out j y h hy
            · have : j = k := by omega
              subst this
              rw [HX.out] at hy
              injection hy with hy
              rw [← hy]
              exact HE.out
          case measure => simp [intOf]; omega
      · go_wp2
        go_ret
        have : k = n := by omega
        subst this
        exact ⟨ret_int (by rw [HH.out.2.1]; exact (idxP_miss (p := fun y => p == y) fun j y hy => HN.out j y (by have := (List.getElem?_eq_some_iff.1 hy).1; have := HH.out.1; omega) hy).symm), rfl⟩
theorem contains_any (v : Value) (xs : List Int) (p : Int) (w : World) (F : Nat → Prop) (hv : Sl (kI .i64) w F v xs) : Calls Try.prog 60 #[v, .int .i64 p] w fun e w' => e = .returned (.bool (xs.contains p)) ∧ w = w' := by
  have h := index_any v xs p w F hv
  rw [List.contains_eq_any_beq, ← idxP_any]
  generalize idxP (fun y => p == y) xs = r at h ⊢
  clear hv
  go_enter Try.func60, Try.ntmps60
  go_wp2_with (go_at_call 75; ((with_reducible refine h.mono ?_); rintro e w' ⟨rfl, rfl⟩))
  go_ret
  exact ⟨rfl, rfl⟩
theorem of_one (b n me : Nat) (hn : n ≤ 64) (hm : me < n) (w : World) (hc : w.cell? ⟨b, 0, none⟩ = some (.int .i64 me)) : Calls Try.prog 74 #[.int .i64 n, .slice (some ⟨b, 0, none⟩) 1 1] w fun e w' => e = .returned (.bool true) ∧ w = w' := by
  have HC : Hid (w.cell? ⟨b, 0, none⟩ = some (.int .i64 me)) := hc
  have hn1 : ¬ (n : Int) < 1 := by omega
  have hn2 : ¬ (64 : Int) < n := by omega
  have hm1 : ¬ (me : Int) < 0 := by omega
  have hm2 : ¬ (n : Int) ≤ me := by omega
  clear hc
  go_enter Try.func74, Try.ntmps74
  go_wp2
  go_loopw [15] (fun i wr => ∃ k : Nat, k ≤ 1 ∧ i = .int .i64 k ∧ w = wr) (fun i _ => 1 - (intOf i).toNat)
  case atStart => exact ⟨0, Nat.zero_le _, by first | rfl | trivial, by first | rfl | trivial⟩
  case round =>
    obtain ⟨k, hk, rfl, rfl⟩ := hrel
    by_cases hlt : k < 1
    · have : k = 0 := by omega
      subst this
      have hc := HC.out
      go_wp2
      go_roundw
      case rel => exact ⟨1, by omega, by go_num, by first | rfl | trivial⟩
      case measure => simp [intOf]
    · have : k = 1 := by omega
      subst this
      go_wp2
      go_ret
      exact ⟨rfl, rfl⟩
def natI (l : List Nat) : List Int := l.map fun (x : Nat) => (x : Int)
theorem natI_snoc (l : List Nat) (x : Nat) : natI (l ++ [x]) = natI l ++ [(x : Int)] := by simp [natI]
theorem wayN_get {n p k : Nat} (hk : k < n - 1) : (wayN n p)[k]? = some ((p + (k + 1)) % n) := by simp [wayN, hk]
theorem wayN_take {n p k : Nat} (hk : k < n - 1) : natI ((wayN n p).take (k + 1)) = natI ((wayN n p).take k) ++ [(((p + (k + 1)) % n : Nat) : Int)] := by
  rw [take_snoc _ _ _ (wayN_get hk), natI_snoc]
theorem natI_in {n : Nat} (hn : n ≤ 64) {l : List Nat} (h : ∀ x ∈ l, x < n) : ∀ y ∈ natI l, InR .i64 y := by
  intro y hy
  simp only [natI, List.mem_map] at hy
  obtain ⟨x, hx, rfl⟩ := hy
  have := h x hx
  rw [inr_i64]; omega
set_option maxRecDepth 20000 in
set_option maxHeartbeats 1000000 in
theorem way_any (n me : Nat) (hn : n ≤ 64) (hm : me < n) (w : World) : Calls Try.prog 59 #[.int .i64 n, .int .i64 me, .slice none 0 0] w fun e w' => ∃ v', e = .returned v' ∧ TW (kI .i64) 3 w' No v' (natI (wayN n me)) ∧ Fresh w v' ∧ Kept No w w' := by
  have hof := of_one w.heap.size n me hn hm (w.alloc (.cells #[.int .i64 me] 3)) (by simp)
  have hcn := fun (p : Int) W => contains_any (.slice none 0 0) [] p W (fun _ => True) (Sl.nil _ _ _)
  simp only [List.contains_nil] at hcn
  have K0 : Hid (Kept No w (w.alloc (.cells #[.int .i64 me] 3))) := by have h : Kept No w (w.alloc (.cells #[.int .i64 me] 3)) := (Kept.refl _ _).alloc _; exact h
  go_enter Try.func59, Try.ntmps59
  go_wp2_with (go_at_call 74; ((with_reducible refine hof.mono ?_); rintro e w1 ⟨rfl, rfl⟩))
  clear hof
  go_loopw [7, 8] (fun o i wr => ∃ k : Nat, k + 1 ≤ n ∧ i = .int .i64 ((k + 1 : Nat) : Int) ∧ TW (kI .i64) 3 wr No o (natI ((wayN n me).take k)) ∧ Fresh w o ∧ Kept No w wr) (fun _ i _ => n - (intOf i).toNat)
  case atStart => exact ⟨0, by omega, by first | rfl | trivial, TW.nil _ _ _ _, Fresh.nil _, K0.out⟩
  case round =>
    obtain ⟨k, hk, rfl, htw, hfr, hke⟩ := hrel
    by_cases hlt : k + 1 < n
    · have hw1 : IntKind.i64.wrap ((me : Int) + ((k : Int) + 1)) = (me : Int) + ((k : Int) + 1) := by rw [IntKind.wrap_i64]; omega
      have hw2 : IntKind.i64.wrap (((me : Int) + ((k : Int) + 1)).tmod n) = (((me + (k + 1)) % n : Nat) : Int) := by
        have e1 : (me : Int) + ((k : Int) + 1) = ((me + (k + 1) : Nat) : Int) := by omega
        rw [e1, ← Int.ofNat_tmod]
        have := Nat.mod_lt (me + (k + 1)) (show n > 0 by omega)
        rw [IntKind.wrap_i64]; omega
      have hw3 : ((me : Int) + ((k : Int) + 1)).tmod n = (((me + (k + 1)) % n : Nat) : Int) := by
        have e1 : (me : Int) + ((k : Int) + 1) = ((me + (k + 1) : Nat) : Int) := by omega
        rw [e1, ← Int.ofNat_tmod]
      have hn0 : ¬ (n : Int) = 0 := by omega
      obtain ⟨q, hq⟩ : ∃ q, q = (me + (k + 1)) % n := ⟨_, rfl⟩
      have hqn : q < n := by rw [hq]; exact Nat.mod_lt _ (by omega)
      have hnx := wayN_take (n := n) (p := me) (k := k) (by omega)
      rw [← hq] at hw2 hw3 hnx
      have ka : Kept No wr (wr.alloc (.cells #[.int .i64 q] 3)) := (Kept.refl _ _).alloc _
      have hsr := src_newN (w := wr) (N := wr.heap.size) (e := 3) (c := .int .i64 q) rfl rfl
      have hlen : (natI ((wayN n me).take k)).length ≤ 64 := by simp [natI, wayN]; omega
      have HT : Hid (TW (kI .i64) 3 (wr.alloc (.cells #[.int .i64 q] 3)) No u7 (natI ((wayN n me).take k)) ∧ Src (wr.alloc (.cells #[.int .i64 q] 3)) (fun k => k = wr.heap.size) 1 (.slice (some ⟨wr.heap.size, 0, none⟩) 1 1) 1 [.int .i64 q] ∧ (natI ((wayN n me).take k)).length ≤ 64 ∧ natI ((wayN n me).take (k + 1)) = natI ((wayN n me).take k) ++ [(q : Int)] ∧ Fresh w u7 ∧ Kept No w wr ∧ InR .i64 q) := ⟨htw.new ka, hsr, hlen, hnx, hfr, hke, by rw [inr_i64]; omega⟩
      clear ka hsr hlen hnx htw hfr hke hq
      go_wp2_with (first
        | (go_at_call 60; ((with_reducible refine (hcn _ _).mono ?_); rintro e w2 ⟨rfl, rfl⟩))
        | (at_builtin; go_must (refine wpList_append_tw (d := kI .i64) (G := No) (F := fun k' => k' = wr.heap.size) rfl (.tmp 29) (.tmp 31) 42 rfl 3 (.int .i64 0) 8 Try.underlying42 info_i64 rfl _ _ 1 _ [(q : Int)] [.int .i64 q] rfl HT.out.1 rfl HT.out.2.1 (reps_ints (by intro x hx; rw [List.mem_singleton.1 hx]; exact HT.out.2.2.2.2.2.2)) rfl (fun _ h => h.elim) ?_ ?_ ?_)))
      · have := HT.out.2.2.1; simp only [maxLen]; omega
      · have := HT.out.2.2.1; omega
      · intro v' w' htw2 hk2 hb2
        have HF : Hid (TW (kI .i64) 3 w' No v' (natI ((wayN n me).take (k + 1))) ∧ Fresh w v' ∧ Kept No w w') := ⟨by rw [HT.out.2.2.2.1]; exact htw2, HT.out.2.2.2.2.1.next (w := wr.alloc (.cells #[.int .i64 q] 3)) (by have := HT.out.2.2.2.2.2.1.size; simp; omega) (by simpa using hb2), (HT.out.2.2.2.2.2.1.alloc _).fresh hk2 HT.out.2.2.2.2.1⟩
        clear htw2 hk2 hb2
        go_wp2
        go_roundw
        case rel => exact ⟨k + 1, by omega, by go_num, HF.out.1, HF.out.2.1, HF.out.2.2⟩
        case measure => simp [intOf]; omega
    · go_wp2
      go_ret
      have hkn : (wayN n me).take k = wayN n me := by rw [List.take_of_length_le]; simp [wayN]; omega
      rw [hkn] at htw
      exact ⟨_, rfl, htw, hfr, hke⟩
set_option maxHeartbeats 1000000 in
theorem holders_tw {b rb n : Nat} {rows : List Row} {G : Nat → Prop} (w : World) (h : MatAt w b rb n rows G) (f : Nat) (s : Int) (hf1 : (f : Int) ≤ 255) :
    Calls Try.prog 26 #[.pointer (some ⟨b, 0, none⟩), .agg #[.int .u8 f, .int .u64 s]] w fun e w' => ∃ v', e = .returned v' ∧ TW (kI .i64) 3 w' No v' (holdersM n rows f s) ∧ Fresh w v' ∧ Kept No w w' := by
  have hc := h.c0
  have hle := h.le
  have hb := h.lt.1
  have HH : Hid (MatAt w b rb n rows G) := h
  have hmay := fun W => may_op f s n W (by omega) hf1
  clear h
  cases hm : mayI f s n with
  | false =>
    rw [holdersM, hm]
    rw [hm] at hmay
    clear hm
    go_enter Try.func26, Try.ntmps26
    go_wp2
    refine wp_region_plan No (.pur 0 (.pur 1 (.pur 2 (.pur 4 (.pur 5 (.pur 6 (.rd 3 (.rd 7 (.rd 8 (.grow 9 (.pur 10 (.pur 11 .fin)))))))))))) [] mixed (by kernel_rfl) ?_
    repeat ((first | refine pl_pur (by simp only [List.getD_cons_succ, List.getD_cons_zero]; rfl) _ (by rfl) (fun W => by go_simp; with_reducible rfl) ?_ | refine pl_rd (by simp only [List.getD_cons_succ, List.getD_cons_zero]; rfl) _ (by rfl) (fun W hW => by have hc := kcell hW; clear hW; go_simp; with_reducible rfl) ?_ | refine pl_skip (by simp only [List.getD_cons_succ, List.getD_cons_zero]; rfl) (by rfl) ?_ | refine pl_skip_rd (by simp only [List.getD_cons_succ, List.getD_cons_zero]; rfl) (by rfl) ?_ | refine pl_skip_grow (by simp only [List.getD_cons_succ, List.getD_cons_zero]; rfl) (by rfl) ?_ | refine pl_skip_act (by simp only [List.getD_cons_succ, List.getD_cons_zero]; rfl) (by rfl) ?_); simp only [Act.put, List.setIfInBounds_toArray, List.set_cons_zero, List.set_cons_succ])
    refine pl_grow (by simp only [List.getD_cons_succ, List.getD_cons_zero]; rfl) ?_
    go_wp2_with (go_at_call 51; ((with_reducible refine (hmay _).mono ?_); rintro e w2 ⟨rfl, hk2⟩))
    refine GPost.mk hk2 ?_
    repeat ((first | refine pl_pur (by simp only [List.getD_cons_succ, List.getD_cons_zero]; rfl) _ (by rfl) (fun W => by go_simp; with_reducible rfl) ?_ | refine pl_rd (by simp only [List.getD_cons_succ, List.getD_cons_zero]; rfl) _ (by rfl) (fun W hW => by have hc := kcell hW; clear hW; go_simp; with_reducible rfl) ?_ | refine pl_skip (by simp only [List.getD_cons_succ, List.getD_cons_zero]; rfl) (by rfl) ?_ | refine pl_skip_rd (by simp only [List.getD_cons_succ, List.getD_cons_zero]; rfl) (by rfl) ?_ | refine pl_skip_grow (by simp only [List.getD_cons_succ, List.getD_cons_zero]; rfl) (by rfl) ?_ | refine pl_skip_act (by simp only [List.getD_cons_succ, List.getD_cons_zero]; rfl) (by rfl) ?_); simp only [Act.put, List.setIfInBounds_toArray, List.set_cons_zero, List.set_cons_succ])
    refine pl_fin ?_
    go_wp2
    go_ret
    exact ⟨_, rfl, TW.nil _ _ _ _, Fresh.nil _, (((Kept.refl _ _).alloc _).drew).trans hk2⟩
  | true =>
    rw [holdersM, hm]
    rw [hm] at hmay
    have hfn : f < n := by simp only [mayI, Bool.and_eq_true, decide_eq_true_eq] at hm; omega
    clear hm
    go_enter Try.func26, Try.ntmps26
    go_wp2
    refine wp_region_plan No (.pur 0 (.pur 1 (.pur 2 (.pur 4 (.pur 5 (.pur 6 (.rd 3 (.rd 7 (.rd 8 (.grow 9 (.pur 10 (.pur 11 .fin)))))))))))) [] mixed (by kernel_rfl) ?_
    repeat ((first | refine pl_pur (by simp only [List.getD_cons_succ, List.getD_cons_zero]; rfl) _ (by rfl) (fun W => by go_simp; with_reducible rfl) ?_ | refine pl_rd (by simp only [List.getD_cons_succ, List.getD_cons_zero]; rfl) _ (by rfl) (fun W hW => by have hc := kcell hW; clear hW; go_simp; with_reducible rfl) ?_ | refine pl_skip (by simp only [List.getD_cons_succ, List.getD_cons_zero]; rfl) (by rfl) ?_ | refine pl_skip_rd (by simp only [List.getD_cons_succ, List.getD_cons_zero]; rfl) (by rfl) ?_ | refine pl_skip_grow (by simp only [List.getD_cons_succ, List.getD_cons_zero]; rfl) (by rfl) ?_ | refine pl_skip_act (by simp only [List.getD_cons_succ, List.getD_cons_zero]; rfl) (by rfl) ?_); simp only [Act.put, List.setIfInBounds_toArray, List.set_cons_zero, List.set_cons_succ])
    refine pl_grow (by simp only [List.getD_cons_succ, List.getD_cons_zero]; rfl) ?_
    go_wp2_with (go_at_call 51; ((with_reducible refine (hmay _).mono ?_); rintro e w2 ⟨rfl, hk2⟩))
    refine GPost.mk hk2 ?_
    repeat ((first | refine pl_pur (by simp only [List.getD_cons_succ, List.getD_cons_zero]; rfl) _ (by rfl) (fun W => by go_simp; with_reducible rfl) ?_ | refine pl_rd (by simp only [List.getD_cons_succ, List.getD_cons_zero]; rfl) _ (by rfl) (fun W hW => by have hc := kcell hW; clear hW; go_simp; with_reducible rfl) ?_ | refine pl_skip (by simp only [List.getD_cons_succ, List.getD_cons_zero]; rfl) (by rfl) ?_ | refine pl_skip_rd (by simp only [List.getD_cons_succ, List.getD_cons_zero]; rfl) (by rfl) ?_ | refine pl_skip_grow (by simp only [List.getD_cons_succ, List.getD_cons_zero]; rfl) (by rfl) ?_ | refine pl_skip_act (by simp only [List.getD_cons_succ, List.getD_cons_zero]; rfl) (by rfl) ?_); simp only [Act.put, List.setIfInBounds_toArray, List.set_cons_zero, List.set_cons_succ])
    refine pl_fin ?_
    have e0 : w2.cell? ⟨w.heap.size, 0, none⟩ = some (.int .u8 f) := hk2.cell (by rw [World.cell?_drew]; simp) id
    have e1 : w2.cell? ⟨w.heap.size, 1, none⟩ = some (.int .u64 s) := hk2.cell (by rw [World.cell?_drew]; simp) id
    have HK2 : Hid (Kept No w w2) := (((Kept.refl _ _).alloc _).drew).trans hk2
    have hcc := HK2.out.cell hc id
    clear hk2 hc
    have hwlt : w.heap.size < w2.heap.size := World.block_lt_of_cell? w2 _ e0
    go_wp2
    go_loopw [5, 26] (fun o i wr => ∃ k : Nat, k ≤ n ∧ i = .int .i64 k ∧ TW (kI .i64) 3 wr No o (holdK rows f s k) ∧ Fresh w o ∧ Fresh w2 o ∧ Kept No w2 wr) (fun _ i _ => n - (intOf i).toNat)
    case atStart => exact ⟨0, Nat.zero_le _, rfl, TW.nil _ _ _ _, Fresh.nil _, Fresh.nil _, Kept.refl _ _⟩
    case round =>
      obtain ⟨k, hk, rfl, htw, hfr, hfr2, hke⟩ := hrel
      by_cases hlt : k < n
      · obtain ⟨r, hr⟩ : ∃ r, rows[k]? = some r := ⟨_, List.getElem?_eq_getElem (by rw [HH.out.len]; exact hlt)⟩
        have hke0 := HK2.out.trans hke
        obtain ⟨vd, vh, d0, d1, d2, d3, _, hsd, hsh⟩ := (HH.out.new hke0).at_ hr
        have hwide := (HH.out.wide r (List.mem_of_getElem? hr)).2
        obtain ⟨x0, y0, z0, rfl, _⟩ : ∃ A n c, vd = .slice A n c ∧ True := by obtain ⟨A, c, h, _⟩ := hsd.slice; exact ⟨A, _, c, h, trivial⟩
        have g0 := hke.cell e0 id
        have g1 := hke.cell e1 id
        have hwr : w.heap.size < wr.heap.size := World.block_lt_of_cell? wr _ g0
        have hsn := holdK_succ rows f s k
        have hpk : holdsP rows f s k = (!r.gone && decide (s ≤ vat r.held f)) := by rw [holdsP, hr]
        rw [hpk] at hsn
        have HQ : Hid (Fresh w u5 ∧ Fresh w2 u5 ∧ Kept No w2 wr ∧ TW (kI .i64) 3 wr No u5 (holdK rows f s k)) := ⟨hfr, hfr2, hke, htw⟩
        rcases hsh.ints with ⟨hz, _⟩ | ⟨_, _, bh, oh, ch, rfl, hh2, hh3, _, hbh, hcell⟩
        · rw [hz] at hwide; simp at hwide; omega
        have hel := (hcell f (vat r.held f) (by unfold vat; rw [List.getD_eq_getElem?_getD, List.getElem?_eq_getElem (by omega)]; rfl)).1
        rw [hwide] at d2 hh2
        have HLk : Hid ((holdK rows f s k).length ≤ k) := holdK_len _ _ _ _
        obtain ⟨hv, hhv⟩ : ∃ hv, hv = vat r.held f := ⟨_, rfl⟩
        rw [← hhv] at hsn hel
        clear hhv hpk hcell hsd hsh hwide hfr hfr2 hke hke0 htw hr hmay
        by_cases hg : r.gone = true
        · rw [hg] at d3 hsn
          simp only [Bool.not_true, Bool.false_and, Bool.false_eq_true, if_false, List.append_nil] at hsn
          have HSN : Hid (holdK rows f s (k + 1) = holdK rows f s k) := hsn
          clear hsn
          go_wp2
          refine wp_region_plan No (.pur 0 (.rd 1 (.pur 2 (.pur 3 (.pur 4 (.pur 6 (.pur 10 (.rd 5 (.rd 7 (.pur 8 (.rd 9 (.rd 11 (.pur 12 (.pur 13 .fin)))))))))))))) [] mixed (by kernel_rfl) ?_
          repeat ((first | refine pl_pur (by simp only [List.getD_cons_succ, List.getD_cons_zero]; rfl) _ (by rfl) (fun W => by go_simp; with_reducible rfl) ?_ | refine pl_rd (by simp only [List.getD_cons_succ, List.getD_cons_zero]; rfl) _ (by rfl) (fun W hW => by have hc := kcell hW; clear hW; go_simp; with_reducible rfl) ?_ | refine pl_skip (by simp only [List.getD_cons_succ, List.getD_cons_zero]; rfl) (by rfl) ?_ | refine pl_skip_rd (by simp only [List.getD_cons_succ, List.getD_cons_zero]; rfl) (by rfl) ?_ | refine pl_skip_grow (by simp only [List.getD_cons_succ, List.getD_cons_zero]; rfl) (by rfl) ?_ | refine pl_skip_act (by simp only [List.getD_cons_succ, List.getD_cons_zero]; rfl) (by rfl) ?_); simp only [Act.put, List.setIfInBounds_toArray, List.set_cons_zero, List.set_cons_succ])
          refine pl_fin ?_
          go_wp2
          go_roundw
          case rel => exact ⟨k + 1, by omega, by go_num, by rw [HSN.out]; exact HQ.out.2.2.2.new (((Kept.refl _ _).alloc _).drew), HQ.out.1, HQ.out.2.1, (HQ.out.2.2.1.alloc _).drew⟩
          case measure => simp [intOf]; omega
        · have hg : r.gone = false := by simpa using hg
          rw [hg] at d3 hsn
          simp only [Bool.not_false, Bool.true_and, decide_eq_true_eq] at hsn
          by_cases hs : s ≤ hv
          · rw [if_pos hs] at hsn
            have HSN : Hid (holdK rows f s (k + 1) = holdK rows f s k ++ [(k : Int)]) := hsn
            clear hsn
            go_wp2
            refine wp_region_plan No (.pur 0 (.rd 1 (.pur 2 (.pur 3 (.pur 4 (.pur 6 (.pur 10 (.rd 5 (.rd 7 (.pur 8 (.rd 9 (.rd 11 (.pur 12 (.pur 13 .fin)))))))))))))) [] mixed (by kernel_rfl) ?_
            repeat ((first | refine pl_pur (by simp only [List.getD_cons_succ, List.getD_cons_zero]; rfl) _ (by rfl) (fun W => by go_simp; with_reducible rfl) ?_ | refine pl_rd (by simp only [List.getD_cons_succ, List.getD_cons_zero]; rfl) _ (by rfl) (fun W hW => by have hc := kcell hW; clear hW; go_simp; with_reducible rfl) ?_ | refine pl_skip (by simp only [List.getD_cons_succ, List.getD_cons_zero]; rfl) (by rfl) ?_ | refine pl_skip_rd (by simp only [List.getD_cons_succ, List.getD_cons_zero]; rfl) (by rfl) ?_ | refine pl_skip_grow (by simp only [List.getD_cons_succ, List.getD_cons_zero]; rfl) (by rfl) ?_ | refine pl_skip_act (by simp only [List.getD_cons_succ, List.getD_cons_zero]; rfl) (by rfl) ?_); simp only [Act.put, List.setIfInBounds_toArray, List.set_cons_zero, List.set_cons_succ])
            refine pl_fin ?_
            obtain ⟨wd, hwd⟩ : ∃ wd, wd = (wr.alloc (.cells #[.int .u64 r.inst, .slice x0 y0 z0, .slice (some ⟨bh, oh, none⟩) n ch, .bool false] 80)).drew := ⟨_, rfl⟩
            have HD : Hid (Kept No wr wd) := by show Kept _ _ _; rw [hwd]; exact ((Kept.refl _ _).alloc _).drew
            rw [← hwd]
            clear hwd
            have hA : Kept No wr (wd.alloc (.cells #[.int .i64 k] 3)) := HD.out.alloc _
            have HA : Hid (Kept No wr (wd.alloc (.cells #[.int .i64 k] 3))) := hA
            clear hA
            have hki : ∀ x ∈ [(k : Int)], InR .i64 x := by simp [inr_i64]; omega
            have HKI : Hid (∀ x ∈ [(k : Int)], InR .i64 x) := hki
            clear hki
            go_wp2_with (at_builtin; go_must (refine wpList_append_tw (d := kI .i64) (G := No) (F := fun k' => k' = wd.heap.size) rfl (.tmp 45) (.tmp 47) 42 rfl 3 (.int .i64 0) 8 Try.underlying42 info_i64 rfl _ _ 1 _ [(k : Int)] [.int .i64 k] rfl (HQ.out.2.2.2.new HA.out) rfl (src_new rfl) (reps_ints HKI.out) rfl (fun _ h => h.elim) ?_ ?_ ?_))
            · have := HLk.out; simp only [maxLen]; omega
            · have := HLk.out; omega
            · intro v' w' htw2 hk3 hb2
              have hf1 := HQ.out.1.next (v' := v') (w := wd.alloc (.cells #[.int .i64 k] 3)) (Nat.le_trans (HK2.out.trans HQ.out.2.2.1).size HA.out.size) (by simpa using hb2)
              have hf2 := HQ.out.2.1.next (v' := v') (w := wd.alloc (.cells #[.int .i64 k] 3)) (Nat.le_trans HQ.out.2.2.1.size HA.out.size) (by simpa using hb2)
              have hke2 := (HQ.out.2.2.1.trans HA.out).fresh hk3 HQ.out.2.1
              rw [← HSN.out] at htw2
              clear hk3 hb2
              go_wp2
              go_roundw
              case rel => exact ⟨k + 1, by omega, by go_num, htw2, hf1, hf2, hke2⟩
              case measure => simp [intOf]; omega
          · rw [if_neg hs] at hsn
            have HSN : Hid (holdK rows f s (k + 1) = holdK rows f s k) := by show _ = _; simpa using hsn
            clear hsn
            go_wp2
            refine wp_region_plan No (.pur 0 (.rd 1 (.pur 2 (.pur 3 (.pur 4 (.pur 6 (.pur 10 (.rd 5 (.rd 7 (.pur 8 (.rd 9 (.rd 11 (.pur 12 (.pur 13 .fin)))))))))))))) [] mixed (by kernel_rfl) ?_
            repeat ((first | refine pl_pur (by simp only [List.getD_cons_succ, List.getD_cons_zero]; rfl) _ (by rfl) (fun W => by go_simp; with_reducible rfl) ?_ | refine pl_rd (by simp only [List.getD_cons_succ, List.getD_cons_zero]; rfl) _ (by rfl) (fun W hW => by have hc := kcell hW; clear hW; go_simp; with_reducible rfl) ?_ | refine pl_skip (by simp only [List.getD_cons_succ, List.getD_cons_zero]; rfl) (by rfl) ?_ | refine pl_skip_rd (by simp only [List.getD_cons_succ, List.getD_cons_zero]; rfl) (by rfl) ?_ | refine pl_skip_grow (by simp only [List.getD_cons_succ, List.getD_cons_zero]; rfl) (by rfl) ?_ | refine pl_skip_act (by simp only [List.getD_cons_succ, List.getD_cons_zero]; rfl) (by rfl) ?_); simp only [Act.put, List.setIfInBounds_toArray, List.set_cons_zero, List.set_cons_succ])
            refine pl_fin ?_
            go_wp2
            go_roundw
            case rel => exact ⟨k + 1, by omega, by go_num, by rw [HSN.out]; exact HQ.out.2.2.2.new (((Kept.refl _ _).alloc _).drew), HQ.out.1, HQ.out.2.1, (HQ.out.2.2.1.alloc _).drew⟩
            case measure => simp [intOf]; omega
      · go_wp2
        go_ret
        have : k = n := by omega
        subst this
        exact ⟨_, rfl, htw, hfr, HK2.out.trans hke⟩
end Go.Proofs.Ytfnecdkfhackkaa
