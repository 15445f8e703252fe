/- The reference of the package matrix, sixth part: Stable. -/
import Derived.Test.YtfnecdkfhackkaaR18e
set_option linter.unusedVariables false
set_option linter.unusedSimpArgs false
namespace Go.Proofs.Ytfnecdkfhackkaa
open Go.RowKit

theorem arr_set {cur : Array Value} {j : Nat} (h : j < cur.size) (v : Value) : (cur.toList.take j ++ [v] ++ cur.toList.drop (j + 1)).toArray = cur.setIfInBounds j v := by
  have e : cur.toList.take j ++ [v] ++ cur.toList.drop (j + 1) = cur.toList.set j v := by
    rw [List.set_eq_take_append_cons_drop, if_pos (by simpa using h)]; simp
  rw [e]
  apply Array.ext_getElem?
  intro i
  simp [Array.getElem?_setIfInBounds, List.getElem?_set]
theorem TW.setI {w : World} {G : Nat → Prop} {g off n c : Nat} {xs : List Int} (h : TW (kI .u64) 26 w G (.slice (some ⟨g, off, none⟩) n c) xs) (hn : xs.length = n) {i : Nat} (hi : i < n) {x : Int} (hx : InR .u64 x) :
    TW (kI .u64) 26 (w.setCell ⟨g, off + i, none⟩ (.int .u64 x)) G (.slice (some ⟨g, off, none⟩) n c) (xs.set i x) := by
  obtain ⟨cur, hg, hfit, hT⟩ := h.set hn hi (x := x) (cs := [.int .u64 x]) ⟨rfl, hx⟩
  have e1 : (kI .u64).sz = 1 := rfl
  rw [e1, Nat.mul_one] at hfit hT
  simp only [List.length_cons, List.length_nil, Nat.zero_add] at hfit hT
  rw [arr_set (by omega)] at hT
  refine hT.new ⟨rfl, rfl, rfl, by simp, fun k hk _ => ?_⟩
  by_cases e : k = g
  · subst e
    rw [setRow_heap _ _ _ _ _ _ hg]
    exact heap_setCell_same w k (off + i) cur 26 _ hg
  · rw [setRow_other _ _ _ _ e]
    exact Below.heap_setCell w _ _ k e
theorem TW.cellI {w : World} {G : Nat → Prop} {g off n c : Nat} {xs : List Int} (h : TW (kI .u64) 26 w G (.slice (some ⟨g, off, none⟩) n c) xs) (hn : xs.length = n) {i : Nat} (hi : i < n) : w.cell? ⟨g, off + i, none⟩ = some (.int .u64 (vat xs i)) ∧ w.frozen? ⟨g, off + i, none⟩ = false := by
  obtain ⟨cs, h1, h2, _⟩ := h
  rw [hn] at h1
  obtain ⟨c1, ⟨e1, _⟩, e2⟩ := h2.get (List.getElem?_eq_getElem (show i < xs.length by omega))
  have e3 := h1.cell _ _ (e2 0 _ (by rw [e1]; rfl))
  obtain ⟨_, cur, hcur⟩ := h1.lt g rfl
  refine ⟨?_, frozen_of_row _ _ _ _ _ hcur⟩
  have e4 : (kI .u64).sz = 1 := rfl
  rw [e4, Nat.mul_one, Nat.add_zero] at e3
  rw [e3, vat, List.getD_eq_getElem?_getD, List.getElem?_eq_getElem (show i < xs.length by omega)]; rfl

/-- The least of what all that are left have delivered of process i; 0: nobody is left. -/
def colM (rows : List Row) (i : Nat) : Int := match leftL rows with | [] => 0 | r :: l => l.foldl (fun m r => min m (vat r.done i)) (vat r.done i)
theorem col_step {rows : List Row} {k : Nat} {r : Row} (i : Nat) (h : rows[k]? = some r) : colM (rows.take (k + 1)) i = if r.gone then colM (rows.take k) i else if leftL (rows.take k) = [] then vat r.done i else min (colM (rows.take k) i) (vat r.done i) := by
  unfold colM
  rw [left_snoc h]
  cases hg : r.gone with
  | true => simp
  | false =>
    cases hl : leftL (rows.take k) with
    | nil => simp
    | cons a l => simp [List.foldl_append]
theorem col_stable {n i : Nat} {rows : List Row} (hw : Wide n rows) (hi : i < n) : colM rows i = vat (stableM n rows) i := by
  unfold colM stableM
  cases hl : leftL rows with
  | nil => simp [vat, hi]
  | cons r l =>
    have hwl : ∀ a ∈ (r :: l).map Row.done, a.length = n := fun a ha => by
      obtain ⟨x, hx, rfl⟩ := List.mem_map.1 ha
      exact (hw x (left_mem.1 (hl ▸ hx)).1).1
    rw [if_neg (by simp), vat_vfold (by rw [vlen_wide hwl (by simp)]; exact hi)]
    simp [List.foldl_map]
def outK (n : Nat) (rows : List Row) (k : Nat) : List Int := (stableM n rows).take k ++ List.replicate (n - k) 0
theorem outK_zero (n : Nat) (rows : List Row) : outK n rows 0 = List.replicate n 0 := by simp [outK]
theorem outK_all {n : Nat} {rows : List Row} (hw : Wide n rows) : outK n rows n = stableM n rows := by
  rw [outK, Nat.sub_self, List.replicate_zero, List.append_nil, List.take_of_length_le (by rw [stable_len hw]; exact Nat.le_refl _)]
theorem outK_len {n k : Nat} {rows : List Row} (hw : Wide n rows) (hk : k ≤ n) : (outK n rows k).length = n := by
  rw [outK, List.length_append, List.length_take, stable_len hw]; simp; omega
theorem outK_succ {n k : Nat} {rows : List Row} (hw : Wide n rows) (hk : k < n) : outK n rows (k + 1) = (outK n rows k).set k (colM rows k) := by
  have hl : k < (stableM n rows).length := by rw [stable_len hw]; exact hk
  obtain ⟨m, hm⟩ : ∃ m, n - k = m + 1 := ⟨n - k - 1, by omega⟩
  rw [outK, outK, hm, show n - (k + 1) = m by omega, take_snoc _ _ _ (List.getElem?_eq_getElem hl), List.set_append_right _ _ (by rw [List.length_take]; omega), List.length_take, Nat.min_eq_left (by omega), Nat.sub_self, List.replicate_succ, List.set_cons_zero, List.append_assoc, List.singleton_append, col_stable hw hk]
  congr 2
  rw [vat, List.getD_eq_getElem?_getD, List.getElem?_eq_getElem hl]; rfl
theorem outK_set {n k : Nat} {rows : List Row} (hw : Wide n rows) (hk : k < n) : (outK n rows k).set k 0 = outK n rows k := by
  have h1 : (outK n rows k).length = n := outK_len hw (by omega)
  have h2 : (outK n rows k)[k]? = some 0 := by
    rw [outK, List.getElem?_append_right (by rw [List.length_take]; omega), List.length_take, stable_len hw, Nat.min_eq_left (by omega), Nat.sub_self, List.getElem?_replicate, if_pos (by omega)]
  obtain ⟨hl, he⟩ := List.getElem?_eq_some_iff.1 h2
  conv => lhs; rw [← he]
  exact List.set_getElem_self hl
theorem vat_set {xs : List Int} {k : Nat} {x : Int} (h : k < xs.length) : vat (xs.set k x) k = x := by simp [vat, h]

theorem tw_put {w : World} {g off n c k : Nat} {ys : List Int} {m x : Int} (h : TW (kI .u64) 26 w No (.slice (some ⟨g, off, none⟩) n c) (ys.set k m)) (hl : (ys.set k m).length = n) (hk : k < n) (hx : InR .u64 x) :
    TW (kI .u64) 26 (w.drew.setCell ⟨g, off + k, none⟩ (.int .u64 x)) No (.slice (some ⟨g, off, none⟩) n c) (ys.set k x) := by
  have := (h.new (Kept.refl No w).drew).setI hl hk hx
  rwa [List.set_set] at this

set_option maxRecDepth 20000 in
set_option maxHeartbeats 2000000 in
theorem stable18_any (A : Option Addr) (n c : Nat) (rows : List Row) (w : World) (F : Nat → Prop) (h : Sl kRow w F (.slice A n c) rows) (hn : rows.length = n) (hpos : 1 ≤ n) (hn64 : n ≤ 64) (hw : Wide n rows) :
    Calls Try.prog 32 #[.agg #[.slice A n c]] w fun e w' => ∃ v', e = .returned v' ∧ Sl (kI .u64) w' (New w w') v' (stableM n rows) ∧ Kept No w w' := by
  have HR := rows_hid h
  have HN : Hid (rows.length = n ∧ Wide n rows) := ⟨hn, hw⟩
  have HZ : Hid (∀ W, Calls Try.prog 52 #[.int .i64 n] W fun e w' => ∃ v', e = .returned v' ∧ TW (kI .u64) 26 w' No v' (List.replicate n 0) ∧ Fresh W v' ∧ Kept No W w') := fun W => zeros_any n hn64 W
  have hw0 : Kept No w (w.alloc (.cells #[.slice A n c] 48)) := (Kept.refl _ _).alloc _
  have HW0 : Hid (Kept No w (w.alloc (.cells #[.slice A n c] 48))) := hw0
  have HB : Hid (∀ W, Kept No (w.alloc (.cells #[.slice A n c] 48)) W → W.cell? ⟨w.heap.size, 0, none⟩ = some (.slice A n c)) := fun W hW => hW.cell (by simp) id
  clear h hn hw0 hw
  go_enter Try.func32, Try.ntmps32
  go_wp2_with (go_at_call 52; ((with_reducible refine (HZ.out _).mono ?_); rintro e w1 ⟨v1, rfl, ht1, hf1, hk1⟩; obtain ⟨g, off, c1, rfl, hc1, hc1m, hg1⟩ := ht1.form (by simp; omega); rw [List.length_replicate] at ht1 hc1 hf1 ⊢; have hgn : w.heap.size + 1 ≤ g := (by have := hf1 g rfl; simpa using this); have H1 : Hid (Kept No (w.alloc (.cells #[.slice A n c] 48)) w1 ∧ TW (kI .u64) 26 w1 No (.slice (some ⟨g, off, none⟩) n c1) (List.replicate n 0) ∧ w.heap.size + 1 ≤ g) := ⟨hk1, ht1, hgn⟩; clear ht1 hf1 hk1))
  go_loopw [13] (fun i wr => ∃ k : Nat, k ≤ n ∧ i = .int .i64 k ∧ TW (kI .u64) 26 wr No (.slice (some ⟨g, off, none⟩) n c1) (outK n rows k) ∧ Kept (fun j => j = g) w1 wr) (fun i _ => n - (intOf i).toNat)
  case atStart => exact ⟨0, Nat.zero_le _, rfl, by rw [outK_zero]; exact H1.out.2.1, Kept.refl _ _⟩
  case round =>
    obtain ⟨k, hk, rfl, htw, hke⟩ := hrel
    by_cases hlt : k < n
    · have HQ : Hid (TW (kI .u64) 26 wr No (.slice (some ⟨g, off, none⟩) n c1) (outK n rows k) ∧ Kept (fun j => j = g) w1 wr) := ⟨htw, hke⟩
      have HC : Hid (∀ W, Kept (fun j => j = g) w1 W → W.cell? ⟨w.heap.size, 0, none⟩ = some (.slice A n c)) := fun W hW => hW.cell (HB.out _ H1.out.1) (fun e => by have e : w.heap.size = g := e; omega)
      have c0 := HC.out wr hke
      clear htw hke
      go_wp2
      go_loopw [5, 19] (fun a i wz => ∃ p : Nat, p ≤ n ∧ i = .int .i64 p ∧ a = .bool (!decide (leftL (rows.take p) = [])) ∧ TW (kI .u64) 26 wz No (.slice (some ⟨g, off, none⟩) n c1) ((outK n rows k).set k (colM (rows.take p) k)) ∧ Kept (fun j => j = g) w1 wz) (fun _ i _ => n - (intOf i).toNat)
      case atStart => exact ⟨0, Nat.zero_le _, rfl, rfl, by rw [List.take_zero, show colM [] k = 0 from rfl, outK_set HN.out.2 hlt]; exact HQ.out.1, HQ.out.2⟩
      case round =>
        obtain ⟨p, hp, rfl, rfl, htw, hke⟩ := hrel
        by_cases hpl : p < n
        · obtain ⟨r, hr⟩ : ∃ r, rows[p]? = some r := ⟨_, List.getElem?_eq_getElem (by rw [HN.out.1]; exact hpl)⟩
          obtain ⟨b, bo, Ad, cd, Ah, ch, rfl, hbl, e0, e1, e2, e3, hK⟩ := HR.out p r hr
          have hkw : Kept No w w1 := HW0.out.trans H1.out.1
          have hbg : ¬ b = g := by have := H1.out.2.2; omega
          have tr : ∀ {j : Nat} {u : Value}, w.cell? ⟨b, j, none⟩ = some u → wr.cell? ⟨b, j, none⟩ = some u := fun h => hke.cell (hkw.cell h id) hbg
          have d1 : wr.cell? ⟨b, bo + p * 4 + 1, none⟩ = some (.slice Ad r.done.length cd) := tr e1
          have d3 : wr.cell? ⟨b, bo + p * 4 + 3, none⟩ = some (.bool r.gone) := tr e3
          have hwr := (HN.out.2 r (List.mem_of_getElem? hr)).1
          obtain ⟨bd, od, rfl, hdr, hel, hbd⟩ : ∃ bd od, Ad = some ⟨bd, od, none⟩ ∧ InR .u64 (vat r.done k) ∧ w.cell? ⟨bd, od + k, none⟩ = some (.int .u64 (vat r.done k)) ∧ bd < w.heap.size := by
            have hsl := (kRow_sl hK).1
            rcases hsl.ints with ⟨hz, _⟩ | ⟨_, _, bd, od, c', hv, _, _, _, hlt', hc⟩
            · rw [hz] at hwr; simp at hwr; omega
            · simp only [Value.slice.injEq] at hv
              have hx : r.done[k]? = some (vat r.done k) := by unfold vat; rw [List.getD_eq_getElem?_getD, List.getElem?_eq_getElem (by omega)]; rfl
              exact ⟨bd, od, hv.1, (hc k _ hx).2, (hc k _ hx).1, hlt'⟩
          have d4 : wr.cell? ⟨bd, od + k, none⟩ = some (.int .u64 (vat r.done k)) := hke.cell (hkw.cell hel id) (fun e => by have e : bd = g := e; have := H1.out.2.2; omega)
          have hol : ((outK n rows k).set k (colM (rows.take p) k)).length = n := by rw [List.length_set]; exact outK_len HN.out.2 hk
          have d5 := (htw.cellI hol hlt).1
          have f5 := (htw.cellI hol hlt).2
          rw [vat_set (by rw [outK_len HN.out.2 hk]; exact hlt)] at d5
          have hst := col_step k hr
          have hlf := left_step hr
          rw [hwr] at d1
          have c0' := HC.out wr hke
          obtain ⟨x, hx⟩ : ∃ x, x = vat r.done k := ⟨_, rfl⟩
          obtain ⟨m0, hm0⟩ : ∃ m, m = colM (rows.take p) k := ⟨_, rfl⟩
          obtain ⟨a0, ha0⟩ : ∃ a, a = decide (leftL (rows.take p) = []) := ⟨_, rfl⟩
          have ha1 : (leftL (rows.take p) = []) ↔ a0 = true := by rw [ha0]; simp
          simp only [ha1] at hst
          rw [← hm0, ← hx] at hst
          rw [← hm0] at d5 htw
          rw [← hx] at d4 hdr
          rw [← ha0] at hlf ⊢
          have HT : Hid (TW (kI .u64) 26 wr No (.slice (some ⟨g, off, none⟩) n c1) ((outK n rows k).set k m0) ∧ Kept (fun j => j = g) w1 wr ∧ InR .u64 x ∧ ((outK n rows k).set k m0).length = n) := ⟨htw, hke, hdr, by rw [List.length_set]; exact outK_len HN.out.2 hk⟩
          have q0 : wr.drew.cell? ⟨w.heap.size, 0, none⟩ = some (.slice (some ⟨b, bo, none⟩) n c) := c0'
          have q1 : wr.drew.cell? ⟨b, bo + p * 4 + 1, none⟩ = some (.slice (some ⟨bd, od, none⟩) n cd) := d1
          have q3 : wr.drew.cell? ⟨b, bo + p * 4 + 3, none⟩ = some (.bool r.gone) := d3
          have q4 : wr.drew.cell? ⟨bd, od + k, none⟩ = some (.int .u64 x) := d4
          have q5 : wr.drew.cell? ⟨g, off + k, none⟩ = some (.int .u64 m0) := d5
          clear hm0 ha0 ha1 hx hK hr e0 e1 e2 e3 tr hkw hwr hel hol htw hke hdr c0 hbd hbl
          cases hg : r.gone with
          | true =>
            rw [hg] at d3 q3 hst hlf
            simp only [if_true, Bool.true_and] at hst hlf
            have HS : Hid (colM (rows.take (p + 1)) k = m0 ∧ decide (leftL (rows.take (p + 1)) = []) = a0) := ⟨hst, hlf⟩
            clear hst hlf hg
            go_wp2
            refine wp_region_plan No (.pur 0 (.pur 2 (.rd 1 (.pur 3 (.pur 4 (.rd 5 (.pur 6 (.pur 7 (.pur 8 (.pur 9 (.pur 10 (.pur 11 (.pur 13 (.pur 17 (.pur 20 (.pur 21 (.pur 22 (.rd 12 (.pur 14 (.pur 15 (.rd 16 (.pur 18 (.rd 19 (.rd 23 (.pur 24 (.pur 25 (.pur 26 .fin))))))))))))))))))))))))))) [] mixed (by kernel_rfl) ?_
            repeat ((first | refine pl_pur (by simp only [List.getD_cons_succ, List.getD_cons_zero]; rfl) _ (by rfl) (fun W => by go_simp; with_reducible rfl) ?_ | refine pl_rd (by simp only [List.getD_cons_succ, List.getD_cons_zero]; rfl) _ (by rfl) (fun W hW => by have hc := hW.cell (q0) id; clear hW; go_simp; with_reducible rfl) ?_ | refine pl_rd (by simp only [List.getD_cons_succ, List.getD_cons_zero]; rfl) _ (by rfl) (fun W hW => by have hc := hW.cell (q1) id; clear hW; go_simp; with_reducible rfl) ?_ | refine pl_rd (by simp only [List.getD_cons_succ, List.getD_cons_zero]; rfl) _ (by rfl) (fun W hW => by have hc := hW.cell (q3) id; clear hW; go_simp; with_reducible rfl) ?_ | refine pl_rd (by simp only [List.getD_cons_succ, List.getD_cons_zero]; rfl) _ (by rfl) (fun W hW => by have hc := hW.cell (q4) id; clear hW; go_simp; with_reducible rfl) ?_ | refine pl_rd (by simp only [List.getD_cons_succ, List.getD_cons_zero]; rfl) _ (by rfl) (fun W hW => by have hc := hW.cell (q5) id; clear hW; go_simp; with_reducible rfl) ?_ | refine pl_skip (by simp only [List.getD_cons_succ, List.getD_cons_zero]; rfl) (by rfl) ?_ | refine pl_skip_rd (by simp only [List.getD_cons_succ, List.getD_cons_zero]; rfl) (by rfl) ?_ | refine pl_skip_grow (by simp only [List.getD_cons_succ, List.getD_cons_zero]; rfl) (by rfl) ?_ | refine pl_skip_act (by simp only [List.getD_cons_succ, List.getD_cons_zero]; rfl) (by rfl) ?_); simp only [Act.put, List.setIfInBounds_toArray, List.set_cons_zero, List.set_cons_succ])
            refine pl_fin ?_
            go_wp2
            go_roundw
            case rel => exact ⟨p + 1, by omega, by go_num, by rw [HS.out.2], by rw [HS.out.1]; exact HT.out.1.new (Kept.refl _ _).drew, HT.out.2.1.drew⟩
            case measure => simp [intOf]; omega
          | false =>
            rw [hg] at d3 q3 hst hlf
            simp only [Bool.false_eq_true, if_false, Bool.false_and] at hst hlf
            cases a0 with
            | true =>
              simp only [if_true] at hst
              have HS : Hid (colM (rows.take (p + 1)) k = x ∧ decide (leftL (rows.take (p + 1)) = []) = false) := ⟨hst, hlf⟩
              clear hst hlf hg
              go_wp2
              refine wp_region_plan No (.pur 0 (.pur 2 (.rd 1 (.pur 3 (.pur 4 (.rd 5 (.pur 6 (.pur 7 (.pur 8 (.pur 9 (.pur 10 (.pur 11 (.pur 13 (.pur 17 (.pur 20 (.pur 21 (.pur 22 (.rd 12 (.pur 14 (.pur 15 (.rd 16 (.pur 18 (.rd 19 (.rd 23 (.pur 24 (.pur 25 (.pur 26 .fin))))))))))))))))))))))))))) [] mixed (by kernel_rfl) ?_
              repeat ((first | refine pl_pur (by simp only [List.getD_cons_succ, List.getD_cons_zero]; rfl) _ (by rfl) (fun W => by go_simp; with_reducible rfl) ?_ | refine pl_rd (by simp only [List.getD_cons_succ, List.getD_cons_zero]; rfl) _ (by rfl) (fun W hW => by have hc := hW.cell (q0) id; clear hW; go_simp; with_reducible rfl) ?_ | refine pl_rd (by simp only [List.getD_cons_succ, List.getD_cons_zero]; rfl) _ (by rfl) (fun W hW => by have hc := hW.cell (q1) id; clear hW; go_simp; with_reducible rfl) ?_ | refine pl_rd (by simp only [List.getD_cons_succ, List.getD_cons_zero]; rfl) _ (by rfl) (fun W hW => by have hc := hW.cell (q3) id; clear hW; go_simp; with_reducible rfl) ?_ | refine pl_rd (by simp only [List.getD_cons_succ, List.getD_cons_zero]; rfl) _ (by rfl) (fun W hW => by have hc := hW.cell (q4) id; clear hW; go_simp; with_reducible rfl) ?_ | refine pl_rd (by simp only [List.getD_cons_succ, List.getD_cons_zero]; rfl) _ (by rfl) (fun W hW => by have hc := hW.cell (q5) id; clear hW; go_simp; with_reducible rfl) ?_ | refine pl_skip (by simp only [List.getD_cons_succ, List.getD_cons_zero]; rfl) (by rfl) ?_ | refine pl_skip_rd (by simp only [List.getD_cons_succ, List.getD_cons_zero]; rfl) (by rfl) ?_ | refine pl_skip_grow (by simp only [List.getD_cons_succ, List.getD_cons_zero]; rfl) (by rfl) ?_ | refine pl_skip_act (by simp only [List.getD_cons_succ, List.getD_cons_zero]; rfl) (by rfl) ?_); simp only [Act.put, List.setIfInBounds_toArray, List.set_cons_zero, List.set_cons_succ])
              refine pl_fin ?_
              go_wp2
              go_roundw
              case rel => exact ⟨p + 1, by omega, by go_num, by simp [HS.out.2], by rw [HS.out.1]; exact tw_put HT.out.1 HT.out.2.2.2 hlt HT.out.2.2.1, (HT.out.2.1.drew.setCell (p := ⟨g, off + k, none⟩) (fun _ => rfl) _)⟩
              case measure => simp [intOf]; omega
            | false =>
              simp only [Bool.false_eq_true, if_false] at hst
              by_cases hri : x < m0
              · have HS : Hid (colM (rows.take (p + 1)) k = x ∧ decide (leftL (rows.take (p + 1)) = []) = false) := ⟨by rw [hst]; omega, hlf⟩
                clear hst hlf hg
                go_wp2
                refine wp_region_plan No (.pur 0 (.pur 2 (.rd 1 (.pur 3 (.pur 4 (.rd 5 (.pur 6 (.pur 7 (.pur 8 (.pur 9 (.pur 10 (.pur 11 (.pur 13 (.pur 17 (.pur 20 (.pur 21 (.pur 22 (.rd 12 (.pur 14 (.pur 15 (.rd 16 (.pur 18 (.rd 19 (.rd 23 (.pur 24 (.pur 25 (.pur 26 .fin))))))))))))))))))))))))))) [] mixed (by kernel_rfl) ?_
                repeat ((first | refine pl_pur (by simp only [List.getD_cons_succ, List.getD_cons_zero]; rfl) _ (by rfl) (fun W => by go_simp; with_reducible rfl) ?_ | refine pl_rd (by simp only [List.getD_cons_succ, List.getD_cons_zero]; rfl) _ (by rfl) (fun W hW => by have hc := hW.cell (q0) id; clear hW; go_simp; with_reducible rfl) ?_ | refine pl_rd (by simp only [List.getD_cons_succ, List.getD_cons_zero]; rfl) _ (by rfl) (fun W hW => by have hc := hW.cell (q1) id; clear hW; go_simp; with_reducible rfl) ?_ | refine pl_rd (by simp only [List.getD_cons_succ, List.getD_cons_zero]; rfl) _ (by rfl) (fun W hW => by have hc := hW.cell (q3) id; clear hW; go_simp; with_reducible rfl) ?_ | refine pl_rd (by simp only [List.getD_cons_succ, List.getD_cons_zero]; rfl) _ (by rfl) (fun W hW => by have hc := hW.cell (q4) id; clear hW; go_simp; with_reducible rfl) ?_ | refine pl_rd (by simp only [List.getD_cons_succ, List.getD_cons_zero]; rfl) _ (by rfl) (fun W hW => by have hc := hW.cell (q5) id; clear hW; go_simp; with_reducible rfl) ?_ | refine pl_skip (by simp only [List.getD_cons_succ, List.getD_cons_zero]; rfl) (by rfl) ?_ | refine pl_skip_rd (by simp only [List.getD_cons_succ, List.getD_cons_zero]; rfl) (by rfl) ?_ | refine pl_skip_grow (by simp only [List.getD_cons_succ, List.getD_cons_zero]; rfl) (by rfl) ?_ | refine pl_skip_act (by simp only [List.getD_cons_succ, List.getD_cons_zero]; rfl) (by rfl) ?_); simp only [Act.put, List.setIfInBounds_toArray, List.set_cons_zero, List.set_cons_succ])
                refine pl_fin ?_
                go_wp2
                go_roundw
                case rel => exact ⟨p + 1, by omega, by go_num, by simp [HS.out.2], by rw [HS.out.1]; exact tw_put HT.out.1 HT.out.2.2.2 hlt HT.out.2.2.1, (HT.out.2.1.drew.setCell (p := ⟨g, off + k, none⟩) (fun _ => rfl) _)⟩
                case measure => simp [intOf]; omega
              · have HS : Hid (colM (rows.take (p + 1)) k = m0 ∧ decide (leftL (rows.take (p + 1)) = []) = false) := ⟨by rw [hst]; omega, hlf⟩
                clear hst hlf hg
                go_wp2
                refine wp_region_plan No (.pur 0 (.pur 2 (.rd 1 (.pur 3 (.pur 4 (.rd 5 (.pur 6 (.pur 7 (.pur 8 (.pur 9 (.pur 10 (.pur 11 (.pur 13 (.pur 17 (.pur 20 (.pur 21 (.pur 22 (.rd 12 (.pur 14 (.pur 15 (.rd 16 (.pur 18 (.rd 19 (.rd 23 (.pur 24 (.pur 25 (.pur 26 .fin))))))))))))))))))))))))))) [] mixed (by kernel_rfl) ?_
                repeat ((first | refine pl_pur (by simp only [List.getD_cons_succ, List.getD_cons_zero]; rfl) _ (by rfl) (fun W => by go_simp; with_reducible rfl) ?_ | refine pl_rd (by simp only [List.getD_cons_succ, List.getD_cons_zero]; rfl) _ (by rfl) (fun W hW => by have hc := hW.cell (q0) id; clear hW; go_simp; with_reducible rfl) ?_ | refine pl_rd (by simp only [List.getD_cons_succ, List.getD_cons_zero]; rfl) _ (by rfl) (fun W hW => by have hc := hW.cell (q1) id; clear hW; go_simp; with_reducible rfl) ?_ | refine pl_rd (by simp only [List.getD_cons_succ, List.getD_cons_zero]; rfl) _ (by rfl) (fun W hW => by have hc := hW.cell (q3) id; clear hW; go_simp; with_reducible rfl) ?_ | refine pl_rd (by simp only [List.getD_cons_succ, List.getD_cons_zero]; rfl) _ (by rfl) (fun W hW => by have hc := hW.cell (q4) id; clear hW; go_simp; with_reducible rfl) ?_ | refine pl_rd (by simp only [List.getD_cons_succ, List.getD_cons_zero]; rfl) _ (by rfl) (fun W hW => by have hc := hW.cell (q5) id; clear hW; go_simp; with_reducible rfl) ?_ | refine pl_skip (by simp only [List.getD_cons_succ, List.getD_cons_zero]; rfl) (by rfl) ?_ | refine pl_skip_rd (by simp only [List.getD_cons_succ, List.getD_cons_zero]; rfl) (by rfl) ?_ | refine pl_skip_grow (by simp only [List.getD_cons_succ, List.getD_cons_zero]; rfl) (by rfl) ?_ | refine pl_skip_act (by simp only [List.getD_cons_succ, List.getD_cons_zero]; rfl) (by rfl) ?_); simp only [Act.put, List.setIfInBounds_toArray, List.set_cons_zero, List.set_cons_succ])
                refine pl_fin ?_
                go_wp2
                go_roundw
                case rel => exact ⟨p + 1, by omega, by go_num, by simp [HS.out.2], by rw [HS.out.1]; exact HT.out.1.new (Kept.refl _ _).drew, HT.out.2.1.drew⟩
                case measure => simp [intOf]; omega
        · have : p = n := by omega
          subst this
          rw [List.take_of_length_le (by rw [HN.out.1]; exact Nat.le_refl _), ← outK_succ HN.out.2 hlt] at htw
          go_wp2
          go_roundw
          case rel => exact ⟨k + 1, by omega, by go_num, htw, hke⟩
          case measure => simp [intOf]; omega
    · go_wp2
      go_ret
      have : k = n := by omega
      subst this
      rw [outK_all HN.out.2] at htw
      have hkw : Kept No w wr := (HW0.out.trans H1.out.1).trans2 hke (fun i hi e => by have e : i = g := e; have := H1.out.2.2; omega)
      exact ⟨_, rfl, htw.sl.mono fun j hj hlt => hj.elim (fun e => by simp only [Value.ownBlock, Option.some.injEq] at e; have := H1.out.2.2; exact ⟨by omega, hlt⟩) (fun h => h.elim), hkw⟩
end Go.Proofs.Ytfnecdkfhackkaa
