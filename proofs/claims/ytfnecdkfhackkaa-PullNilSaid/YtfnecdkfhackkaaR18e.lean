/- The reference of the package matrix, fifth part: Least, Most, Same. -/
import Derived.Test.YtfnecdkfhackkaaR18d
set_option linter.unusedVariables false
set_option linter.unusedSimpArgs false
namespace Go.Proofs.Ytfnecdkfhackkaa
open Go.RowKit

theorem left_snoc {rows : List Row} {k : Nat} {r : Row} (h : rows[k]? = some r) : leftL (rows.take (k + 1)) = leftL (rows.take k) ++ if r.gone then [] else [r] := by
  rw [take_snoc _ _ _ h, leftL, List.filter_append]
  cases hg : r.gone <;> simp [leftL, hg]
theorem leastM_eq (rows : List Row) : leastM rows = match leftL rows with | [] => 0 | r :: l => l.foldl (fun n r => min n r.inst) r.inst := by
  unfold leastM
  cases leftL rows with
  | nil => rfl
  | cons r l => simp [lowI]
theorem least_step {rows : List Row} {k : Nat} {r : Row} (h : rows[k]? = some r) : leastM (rows.take (k + 1)) = if r.gone then leastM (rows.take k) else if leftL (rows.take k) = [] then r.inst else min (leastM (rows.take k)) r.inst := by
  rw [leastM_eq, leastM_eq, left_snoc h]
  cases hg : r.gone with
  | true => simp
  | false =>
    cases hl : leftL (rows.take k) with
    | nil => simp
    | cons a l => simp [List.foldl_append]
theorem left_step {rows : List Row} {k : Nat} {r : Row} (h : rows[k]? = some r) : decide (leftL (rows.take (k + 1)) = []) = (r.gone && decide (leftL (rows.take k) = [])) := by
  rw [left_snoc h]
  cases r.gone <;> simp

/-- The rows' cells, in whatever world behind. -/
theorem rows_hid {w : World} {F : Nat → Prop} {A : Option Addr} {n c : Nat} {rows : List Row} (h : Sl kRow w F (.slice A n c) rows) : Hid (∀ (p : Nat) r, rows[p]? = some r → ∃ b off Ad cd Ah ch, A = some ⟨b, off, none⟩ ∧ b < w.heap.size ∧ w.cell? ⟨b, off + p * 4, none⟩ = some (.int .u64 r.inst) ∧ w.cell? ⟨b, off + p * 4 + 1, none⟩ = some (.slice Ad r.done.length cd) ∧ w.cell? ⟨b, off + p * 4 + 2, none⟩ = some (.slice Ah r.held.length ch) ∧
      w.cell? ⟨b, off + p * 4 + 3, none⟩ = some (.bool r.gone) ∧ kRow.K w F r [.int .u64 r.inst, .slice Ad r.done.length cd, .slice Ah r.held.length ch, .bool r.gone]) := fun p r hr => row_at h hr

set_option maxRecDepth 20000 in
set_option maxHeartbeats 1000000 in
theorem least18_any (A : Option Addr) (n c : Nat) (rows : List Row) (w : World) (F : Nat → Prop) (h : Sl kRow w F (.slice A n c) rows) (hn : rows.length = n) (hn64 : n ≤ 64) :
    Calls Try.prog 33 #[.agg #[.slice A n c]] w fun e w' => e = .returned (.int .u64 (leastM rows)) ∧ Kept No w w' := by
  have HR := rows_hid h
  have HN : Hid (rows.length = n) := hn
  clear h hn
  go_enter Try.func33, Try.ntmps33
  go_wp2
  go_loopw [3, 4, 9] (fun m a i wr => ∃ k : Nat, k ≤ n ∧ i = .int .i64 k ∧ m = .int .u64 (leastM (rows.take k)) ∧ a = .bool (!decide (leftL (rows.take k) = [])) ∧ wr = w.alloc (.cells #[.slice A n c] 48)) (fun _ _ i _ => n - (intOf i).toNat)
  case atStart => exact ⟨0, Nat.zero_le _, rfl, rfl, rfl, rfl⟩
  case round =>
    obtain ⟨k, hk, rfl, rfl, rfl, rfl⟩ := hrel
    by_cases hlt : k < n
    · obtain ⟨r, hr⟩ : ∃ r, rows[k]? = some r := ⟨_, List.getElem?_eq_getElem (by rw [HN.out]; exact hlt)⟩
      obtain ⟨b, off, Ad, cd, Ah, ch, rfl, hbl, e0, e1, e2, e3, hK⟩ := HR.out k r hr
      have hst := least_step hr
      have hlf := left_step hr
      obtain ⟨m0, hm0⟩ : ∃ m, m = leastM (rows.take k) := ⟨_, rfl⟩
      obtain ⟨a0, ha0⟩ : ∃ a, a = decide (leftL (rows.take k) = []) := ⟨_, rfl⟩
      have ha1 : (leftL (rows.take k) = []) ↔ a0 = true := by rw [ha0]; simp
      simp only [ha1] at hst
      rw [← hm0] at hst ⊢
      rw [← ha0] at hlf ⊢
      clear hm0 ha0 ha1 hK hr e1 e2
      cases hg : r.gone with
      | true =>
        rw [hg] at e3 hst hlf
        simp only [if_true, Bool.true_and] at hst hlf
        have HS : Hid (leastM (rows.take (k + 1)) = m0 ∧ decide (leftL (rows.take (k + 1)) = []) = a0) := ⟨hst, hlf⟩
        clear hst hlf hg
        go_wp2
        go_roundw
        case rel => exact ⟨k + 1, by omega, by go_num, by rw [HS.out.1], by rw [HS.out.2], by first | rfl | trivial⟩
        case measure => simp [intOf]; omega
      | false =>
        rw [hg] at e3 hst hlf
        simp only [Bool.false_eq_true, if_false, Bool.false_and] at hst hlf
        cases a0 with
        | true =>
          simp only [if_true] at hst
          have HS : Hid (leastM (rows.take (k + 1)) = r.inst ∧ decide (leftL (rows.take (k + 1)) = []) = false) := ⟨hst, hlf⟩
          clear hst hlf hg
          go_wp2
          go_roundw
          case rel => exact ⟨k + 1, by omega, by go_num, by rw [HS.out.1], by simp [HS.out.2], by first | rfl | trivial⟩
          case measure => simp [intOf]; omega
        | false =>
          simp only [Bool.false_eq_true, if_false] at hst
          by_cases hri : r.inst < m0
          · have HS : Hid (leastM (rows.take (k + 1)) = r.inst ∧ decide (leftL (rows.take (k + 1)) = []) = false) := ⟨by rw [hst]; omega, hlf⟩
            clear hst hlf hg
            go_wp2
            go_roundw
            case rel => exact ⟨k + 1, by omega, by go_num, by rw [HS.out.1], by simp [HS.out.2], by first | rfl | trivial⟩
            case measure => simp [intOf]; omega
          · have HS : Hid (leastM (rows.take (k + 1)) = m0 ∧ decide (leftL (rows.take (k + 1)) = []) = false) := ⟨by rw [hst]; omega, hlf⟩
            clear hst hlf hg
            go_wp2
            go_roundw
            case rel => exact ⟨k + 1, by omega, by go_num, by rw [HS.out.1], by simp [HS.out.2], by first | rfl | trivial⟩
            case measure => simp [intOf]; omega
    · go_wp2
      go_ret
      have : k = n := by omega
      subst this
      rw [List.take_of_length_le (by rw [HN.out]; exact Nat.le_refl _)]
      exact ⟨rfl, (Kept.refl _ _).alloc _⟩

/-! ### Most -/
def riseAll (n : Nat) (rows : List Row) : List Int := rows.foldl (fun a r => vrise a r.held) (List.replicate n 0)
theorem riseAll_len (n : Nat) (rows : List Row) : (riseAll n rows).length = n := by
  have key : ∀ (l : List Row) (a : List Int), (l.foldl (fun a r => vrise a r.held) a).length = a.length := by
    intro l
    induction l with
    | nil => intro a; rfl
    | cons r l ih => intro a; rw [List.foldl_cons, ih, vrise_len]
  rw [riseAll, key]; simp
theorem vat_riseAll (n : Nat) (rows : List Row) (i : Nat) (hi : i < n) : vat (riseAll n rows) i = rows.foldl (fun m r => max m (vat r.held i)) 0 := by
  have key : ∀ (l : List Row) (a : List Int), i < a.length → vat (l.foldl (fun a r => vrise a r.held) a) i = l.foldl (fun m r => max m (vat r.held i)) (vat a i) := by
    intro l
    induction l with
    | nil => intro a _; rfl
    | cons r l ih => intro a ha; rw [List.foldl_cons, ih _ (by rw [vrise_len]; exact ha), vat_vrise _ _ _ ha]; rfl
  rw [riseAll, key _ _ (by simpa using hi)]
  congr 1
  simp [vat, hi]
theorem list_vat {a b : List Int} (hl : a.length = b.length) (h : ∀ i, i < a.length → vat a i = vat b i) : a = b := by
  apply List.ext_getElem hl
  intro i h1 h2
  have := h i h1
  simpa [vat, h1, h2] using this
theorem riseAll_most {n : Nat} {rows : List Row} (hw : Wide n rows) (h0 : rows ≠ []) (hp : ∀ r ∈ rows, ∀ x ∈ r.held, 0 ≤ x) : riseAll n rows = mostM rows := by
  refine list_vat (by rw [riseAll_len, most_len hw h0]) fun i hi => ?_
  rw [riseAll_len] at hi
  rw [vat_riseAll _ _ _ hi]
  apply Int.le_antisymm
  · rw [foldl_max_iff (fun r : Row => vat r.held i)]
    have h2 := (most_iff hw h0 hi _).1 (Int.le_refl (vat (mostM rows) i))
    refine ⟨?_, h2⟩
    obtain ⟨r, hr⟩ := List.exists_mem_of_ne_nil _ h0
    refine Int.le_trans ?_ (h2 r hr)
    unfold vat
    rw [List.getD_eq_getElem?_getD]
    cases hx : r.held[i]? with
    | none => exact Int.le_refl _
    | some x => exact hp r hr x (List.mem_of_getElem? hx)
  · rw [most_iff hw h0 hi]
    exact ((foldl_max_iff (fun r : Row => vat r.held i) _ rows 0).1 (Int.le_refl _)).2

set_option maxRecDepth 20000 in
set_option maxHeartbeats 1000000 in
theorem most18_any (A : Option Addr) (n c : Nat) (rows : List Row) (w : World) (F : Nat → Prop) (h : Sl kRow w F (.slice A n c) rows) (hn : rows.length = n) (hn64 : n ≤ 64) :
    Calls Try.prog 34 #[.agg #[.slice A n c]] w fun e w' => ∃ v', e = .returned v' ∧ Sl (kI .u64) w' (New w w') v' (riseAll n rows) ∧ Kept No w w' := by
  have HR := rows_hid h
  have HN : Hid (rows.length = n) := hn
  have HZ : Hid (∀ W, Calls Try.prog 52 #[.int .i64 n] W fun e w' => ∃ v', e = .returned v' ∧ TW (kI .u64) 26 w' No v' (List.replicate n 0) ∧ Fresh W v' ∧ Kept No W w') := fun W => zeros_any n hn64 W
  have hw0 : Kept No w (w.alloc (.cells #[.slice A n c] 48)) := (Kept.refl _ _).alloc _
  have HW0 : Hid (Kept No w (w.alloc (.cells #[.slice A n c] 48))) := hw0
  have HB : Hid (∀ W, Kept No (w.alloc (.cells #[.slice A n c] 48)) W → W.cell? ⟨w.heap.size, 0, none⟩ = some (.slice A n c)) := fun W hW => hW.cell (by simp) id
  clear h hn hw0
  go_enter Try.func34, Try.ntmps34
  go_wp2_with (go_at_call 52; ((with_reducible refine (HZ.out _).mono ?_); rintro e w1 ⟨v1, rfl, ht1, hf1, hk1⟩; have c0 := HB.out w1 hk1; have H1 : Hid (Kept No (w.alloc (.cells #[.slice A n c] 48)) w1 ∧ Sl (kI .u64) w1 (New w w1) v1 (List.replicate n 0)) := ⟨hk1, ht1.sl.mono fun k hk hlt => hk.elim (fun e => ⟨Nat.le_trans HW0.out.size (hf1 k e), hlt⟩) (fun h => h.elim)⟩; clear ht1 hf1 hk1))
  go_loopw [3, 12] (fun o i wr => ∃ k : Nat, k ≤ n ∧ i = .int .i64 k ∧ Sl (kI .u64) wr (New w wr) o (riseAll n (rows.take k)) ∧ Kept No (w.alloc (.cells #[.slice A n c] 48)) wr) (fun _ i _ => n - (intOf i).toNat)
  case atStart => exact ⟨0, Nat.zero_le _, rfl, H1.out.2, H1.out.1⟩
  case round =>
    obtain ⟨k, hk, rfl, hs, hke⟩ := hrel
    by_cases hlt : k < n
    · obtain ⟨r, hr⟩ : ∃ r, rows[k]? = some r := ⟨_, List.getElem?_eq_getElem (by rw [HN.out]; exact hlt)⟩
      obtain ⟨b, off, Ad, cd, Ah, ch, rfl, hbl, e0, e1, e2, e3, hK⟩ := HR.out k r hr
      have hkw := HW0.out.trans hke
      have e2' := hkw.cell e2 id
      have c0' := HB.out wr hke
      have hbw := World.block_lt_of_cell? wr _ e2'
      have hsn : riseAll n (rows.take (k + 1)) = vrise (riseAll n (rows.take k)) r.held := by rw [riseAll, take_snoc _ _ _ hr, List.foldl_append]; rfl
      have hrise := r18rise_any u3 _ (riseAll n (rows.take k)) r.held wr (fun _ => True) (hs.mono fun _ _ _ => trivial) (((kRow_sl hK).2.1.new hkw).mono fun _ _ _ => trivial) (by rw [riseAll_len]; exact hn64)
      have HQ : Hid (Kept No (w.alloc (.cells #[.slice (some ⟨b, off, none⟩) n c] 48)) wr ∧ riseAll n (rows.take (k + 1)) = vrise (riseAll n (rows.take k)) r.held) := ⟨hke, hsn⟩
      clear hr hK e0 e1 e2 e3 hkw hke hs hsn
      go_wp2_with (go_at_call 54; ((with_reducible refine hrise.mono ?_); rintro e w2 ⟨v2, rfl, ht2, hf2, hk2⟩))
      have hkn := HQ.out.1.trans hk2
      go_roundw
      case rel => exact ⟨k + 1, by omega, by go_num, by rw [HQ.out.2]; exact ht2.sl.mono fun k hk hlt => hk.elim (fun e => ⟨Nat.le_trans (HW0.out.trans HQ.out.1).size (hf2 k e), hlt⟩) (fun h => h.elim), hkn⟩
      case measure => simp [intOf]; omega
    · go_wp2
      go_ret
      have : k = n := by omega
      subst this
      rw [List.take_of_length_le (by rw [HN.out]; exact Nat.le_refl _)] at hs
      exact ⟨_, rfl, hs, HW0.out.trans hke⟩

set_option maxRecDepth 20000 in
theorem same15_true (va vb : Value) (a : List Int) (w : World) (F : Nat → Prop) (ha : Sl (kI .i64) w F va a) (hb : Sl (kI .i64) w F vb a) :
    Calls Try.prog 35 #[va, vb] w fun e w' => e = .returned (.bool true) ∧ Kept No w w' := by
  obtain ⟨A, c, rfl, _⟩ := ha.slice
  obtain ⟨B, d, rfl, _⟩ := hb.slice
  obtain ⟨n, hn⟩ : ∃ n, n = a.length := ⟨_, rfl⟩
  have HA : Hid (∀ (k : Nat) x, a[k]? = some x → (∃ bb off, A = some ⟨bb, off, none⟩ ∧ w.cell? ⟨bb, off + k, none⟩ = some (.int .i64 x)) ∧ (∃ bb off, B = some ⟨bb, off, none⟩ ∧ w.cell? ⟨bb, off + k, none⟩ = some (.int .i64 x))) := by
    intro k x hx
    constructor
    · rcases ha.ints with ⟨rfl, _⟩ | ⟨_, _, bb, off, c, hv, _, _, _, hlt, hc⟩
      · simp at hx
      · simp only [Value.slice.injEq] at hv
        exact ⟨bb, off, hv.1, (hc k x hx).1⟩
    · rcases hb.ints with ⟨rfl, _⟩ | ⟨_, _, bb, off, c, hv, _, _, _, hlt, hc⟩
      · simp at hx
      · simp only [Value.slice.injEq] at hv
        exact ⟨bb, off, hv.1, (hc k x hx).1⟩
  have hm : n ≤ 9223372036854775807 := by
    rcases ha.ints with ⟨rfl, _⟩ | ⟨_, h, _⟩
    · simp at hn; omega
    · omega
  have HN : Hid (n = a.length) := hn
  rw [← hn]
  clear ha hb hn
  go_enter Try.func35, Try.ntmps35
  go_wp2
  go_loopw [13] (fun i wr => ∃ k : Nat, k ≤ n ∧ i = .int .i64 k ∧ Kept No w wr) (fun i _ => n - (intOf i).toNat)
  case atStart => exact ⟨0, Nat.zero_le _, rfl, Kept.refl _ _⟩
  case round =>
    obtain ⟨k, hk, rfl, hke⟩ := hrel
    by_cases hlt : k < n
    · obtain ⟨x, hx⟩ : ∃ x, a[k]? = some x := ⟨_, List.getElem?_eq_getElem (by rw [← HN.out]; exact hlt)⟩
      obtain ⟨⟨b1, o1, rfl, h1⟩, b2, o2, rfl, h2⟩ := HA.out k x hx
      have g1 : wr.drew.cell? ⟨b1, o1 + k, none⟩ = some (.int .i64 x) := hke.cell h1 id
      have g2 : wr.drew.cell? ⟨b2, o2 + k, none⟩ = some (.int .i64 x) := hke.cell h2 id
      have HK : Hid (Kept No w wr.drew) := hke.drew
      clear h1 h2 hx hke
      go_wp2
      refine wp_region_plan No (.pur 0 (.pur 1 (.pur 2 (.pur 4 (.pur 5 (.pur 6 (.rd 3 (.rd 7 (.pur 8 .fin))))))))) [] mixed (by kernel_rfl) ?_
      repeat ((first | refine pl_pur (by simp only [List.getD_cons_succ, List.getD_cons_zero]; rfl) _ (by rfl) (fun W => by go_simp; with_reducible rfl) ?_ | refine pl_rd (by simp only [List.getD_cons_succ, List.getD_cons_zero]; rfl) _ (by rfl) (fun W hW => by have hc := hW.cell (g1) id; clear hW; go_simp; with_reducible rfl) ?_ | refine pl_rd (by simp only [List.getD_cons_succ, List.getD_cons_zero]; rfl) _ (by rfl) (fun W hW => by have hc := hW.cell (g2) id; clear hW; go_simp; with_reducible rfl) ?_); simp only [Act.put, List.setIfInBounds_toArray, List.set_cons_zero, List.set_cons_succ])
      refine pl_fin ?_
      go_wp2
      go_roundw
      case rel => exact ⟨k + 1, by omega, by go_num, HK.out⟩
      case measure => simp [intOf]; omega
    · go_wp2
      go_ret
      exact ⟨rfl, hke⟩
end Go.Proofs.Ytfnecdkfhackkaa
