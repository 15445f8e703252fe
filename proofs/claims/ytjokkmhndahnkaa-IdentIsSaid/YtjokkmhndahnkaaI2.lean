/- The package ident, second part: ids and runs compared; rows of them compared; in. -/
import Derived.Test.YtjokkmhndahnkaaI1
set_option linter.unusedVariables false
set_option linter.unusedSimpArgs false
namespace Go.Proofs.Ytjokkmhndahnkaa
open Go.RowKit

theorem prd {P : Program} (w : World) : (program).run P w = .ok P w := rfl
theorem eqg33 (op : BinOp) (x y : Operand) (a b : Array Value) (W : World) : (eqGuard op 33 x y (.agg a) (.agg b)).run Try.prog W = .ok () W := by
  have h : Try.prog.eqGuardType Try.prog.depth 33 = false := by kernel_rfl
  unfold eqGuard
  cases op <;> simp [Sem.run_bind, h]
theorem eqg40 (op : BinOp) (x y : Operand) (a b : Array Value) (W : World) : (eqGuard op 40 x y (.agg a) (.agg b)).run Try.prog W = .ok () W := by
  have h : Try.prog.eqGuardType Try.prog.depth 40 = false := by kernel_rfl
  unfold eqGuard
  cases op <;> simp [Sem.run_bind, h]
def fs33 : List Field := [{ name := "From", type := 5, offset := 0, embedded := false, tag := "", pkgPath := "", byteOffset := 0 }, { name := "Seq", type := 31, offset := 1, embedded := false, tag := "", pkgPath := "", byteOffset := 8 }]
theorem fs33_eq : Try.prog.fieldsOf 33 = fs33.toArray := by kernel_rfl
theorem part5 (w : World) (x : Value) (l : List Value) : (part 5 (x :: l).toArray 0).run Try.prog w = .ok x w := run_part_plain w (by kernel_rfl) rfl
theorem part31 (w : World) (x y : Value) (l : List Value) : (part 31 (x :: y :: l).toArray 1).run Try.prog w = .ok y w := run_part_plain w (by kernel_rfl) rfl
theorem part31b (w : World) (x y z : Value) (l : List Value) : (part 31 (x :: y :: z :: l).toArray 2).run Try.prog w = .ok z w := run_part_plain w (by kernel_rfl) rfl
theorem eq33 (a b : PID) (w : World) : (Op.equal 33 (.agg #[.int .u8 a.1, .int .u64 a.2]) (.agg #[.int .u8 b.1, .int .u64 b.2])).run Try.prog w = .ok (decide (a = b)) w := by
  obtain ⟨a, c⟩ := a
  obtain ⟨b, e⟩ := b
  show (Op.equalIn (9998 + 1 + 1) 33 _ _).run Try.prog w = _
  rw [run_equalIn_agg w (9998 + 1) 33 _ _ (by kernel_rfl) (by kernel_rfl), fs33_eq]
  simp [fs33, Op.eqFields, Sem.run_bind, part5, part31, run_equalIn_int w 9998 5 .u8 .u8 a b Try.underlying5, run_equalIn_int w 9998 31 .u64 .u64 c e Try.underlying31, Result.andThen]
  by_cases h1 : a = b <;> by_cases h2 : c = e <;> simp [h1, h2]
def fs40 : List Field := [{ name := "From", type := 5, offset := 0, embedded := false, tag := "", pkgPath := "", byteOffset := 0 }, { name := "First", type := 31, offset := 1, embedded := false, tag := "", pkgPath := "", byteOffset := 8 }, { name := "Count", type := 31, offset := 2, embedded := false, tag := "", pkgPath := "", byteOffset := 16 }]
theorem fs40_eq : Try.prog.fieldsOf 40 = fs40.toArray := by kernel_rfl
theorem eq40 (a b : PRun) (w : World) : (Op.equal 40 (.agg #[.int .u8 a.1, .int .u64 a.2.1, .int .u64 a.2.2]) (.agg #[.int .u8 b.1, .int .u64 b.2.1, .int .u64 b.2.2])).run Try.prog w = .ok (decide (a = b)) w := by
  obtain ⟨a, c, d⟩ := a
  obtain ⟨b, e, f⟩ := b
  show (Op.equalIn (9998 + 1 + 1) 40 _ _).run Try.prog w = _
  rw [run_equalIn_agg w (9998 + 1) 40 _ _ (by kernel_rfl) (by kernel_rfl), fs40_eq]
  simp [fs40, Op.eqFields, Sem.run_bind, part5, part31, part31b, run_equalIn_int w 9998 5 .u8 .u8 a b Try.underlying5, run_equalIn_int w 9998 31 .u64 .u64 c e Try.underlying31, run_equalIn_int w 9998 31 .u64 .u64 d f Try.underlying31, Result.andThen]
  by_cases h1 : a = b <;> by_cases h2 : c = e <;> by_cases h3 : d = f <;> simp [h1, h2, h3]

/-- An id of a slice, at hand. -/
theorem sl_ids {w : World} {F : Nat → Prop} {v : Value} {xs : List PID} (h : Sl kID w F v xs) : (xs = [] ∧ ∃ A c, v = .slice A 0 c) ∨
    (0 < xs.length ∧ xs.length ≤ 9223372036854775807 ∧ ∃ b off c, v = .slice (some ⟨b, off, none⟩) xs.length c ∧ xs.length ≤ c ∧ c ≤ 9223372036854775807 ∧ F b ∧ b < w.heap.size ∧
      ∀ j x, xs[j]? = some x → okID x ∧ ∀ i u, [Value.int .u8 x.1, .int .u64 x.2][i]? = some u → w.cell? ⟨b, off + j * 2 + i, none⟩ = some u) := by
  rcases Sl.cases (by decide) h with h | ⟨h0, h1, b, off, c, hv, h2, h3, hF, hb, hc⟩
  · exact .inl h
  · refine .inr ⟨h0, by simp only [maxLen] at h1; omega, b, off, c, hv, h2, by simp only [maxLen] at h3; omega, hF, hb, fun j x hx => ?_⟩
    obtain ⟨cs, ⟨rfl, hr⟩, hcell⟩ := hc j x hx
    exact ⟨hr, hcell⟩
theorem sl_runs {w : World} {F : Nat → Prop} {v : Value} {xs : List PRun} (h : Sl kRun w F v xs) : (xs = [] ∧ ∃ A c, v = .slice A 0 c) ∨
    (0 < xs.length ∧ xs.length ≤ 9223372036854775807 ∧ ∃ b off c, v = .slice (some ⟨b, off, none⟩) xs.length c ∧ xs.length ≤ c ∧ c ≤ 9223372036854775807 ∧ F b ∧ b < w.heap.size ∧
      ∀ j x, xs[j]? = some x → okRun x ∧ ∀ i u, [Value.int .u8 x.1, .int .u64 x.2.1, .int .u64 x.2.2][i]? = some u → w.cell? ⟨b, off + j * 3 + i, none⟩ = some u) := by
  rcases Sl.cases (by decide) h with h | ⟨h0, h1, b, off, c, hv, h2, h3, hF, hb, hc⟩
  · exact .inl h
  · refine .inr ⟨h0, by simp only [maxLen] at h1; omega, b, off, c, hv, h2, by simp only [maxLen] at h3; omega, hF, hb, fun j x hx => ?_⟩
    obtain ⟨cs, ⟨rfl, hr⟩, hcell⟩ := hc j x hx
    exact ⟨hr, hcell⟩
theorem pl_loadw {P : Program} {F : Nat → Prop} {l : List Oper} {K : Act → World → Prop} {a : Act} {w : World} {i : Nat} {p : Plan} {o : Oper} (ho : l.getD i default = o) (hg : Region.wanted o (yielded l.toArray a.tmps) = true) (x : Operand) (ty : TypeId) (hop : o.op = .load ty x)
    (b off : Nat) (hx : a.eval x = .pointer (some ⟨b, off, none⟩)) (cs : List Value) (hA : Agg P ty cs.length) (hc : ∀ i u, cs[i]? = some u → w.cell? ⟨b, off + i, none⟩ = some u) (hF : ¬ F b)
    (h : wpPl P F l K p (a.put o.dst (.agg cs.toArray)) w) : wpPl P F l K (.rd i p) a w := by
  refine pl_rd ho _ hg (fun W hW => ?_) h
  simp only [execOp, hop, Instr.loadAt, hx]
  simp [Instr.sureAddr, run_load_whole hA (fun i u hu => hW.cell (hc i u hu) hF)]

theorem exec_neq33 {a : Act} {o : Oper} {x y : Operand} {p q : PID} {r : Bool} (hr : r = decide (p = q)) (hop : o.op = .binOp .neq 33 x y 33) (hx : a.eval x = .agg #[.int .u8 p.1, .int .u64 p.2]) (hy : a.eval y = .agg #[.int .u8 q.1, .int .u64 q.2]) (W : World) : (execOp a.eval o).run Try.prog W = .ok (.value (.bool (!r))) W := by
  subst hr
  simp [execOp, hop, hx, hy, Sem.run_bind, eqg33, binOp, eq33]
theorem exec_eql33 {a : Act} {o : Oper} {x y : Operand} {p q : PID} {r : Bool} (hr : r = decide (p = q)) (hop : o.op = .binOp .eql 33 x y 33) (hx : a.eval x = .agg #[.int .u8 p.1, .int .u64 p.2]) (hy : a.eval y = .agg #[.int .u8 q.1, .int .u64 q.2]) (W : World) : (execOp a.eval o).run Try.prog W = .ok (.value (.bool r)) W := by
  subst hr
  simp [execOp, hop, hx, hy, Sem.run_bind, eqg33, binOp, eq33]
theorem exec_neq40 {a : Act} {o : Oper} {x y : Operand} {p q : PRun} {r : Bool} (hr : r = decide (p = q)) (hop : o.op = .binOp .neq 40 x y 40) (hx : a.eval x = .agg #[.int .u8 p.1, .int .u64 p.2.1, .int .u64 p.2.2]) (hy : a.eval y = .agg #[.int .u8 q.1, .int .u64 q.2.1, .int .u64 q.2.2]) (W : World) : (execOp a.eval o).run Try.prog W = .ok (.value (.bool (!r))) W := by
  subst hr
  simp [execOp, hop, hx, hy, Sem.run_bind, eqg40, binOp, eq40]
theorem exec_eql40 {a : Act} {o : Oper} {x y : Operand} {p q : PRun} {r : Bool} (hr : r = decide (p = q)) (hop : o.op = .binOp .eql 40 x y 40) (hx : a.eval x = .agg #[.int .u8 p.1, .int .u64 p.2.1, .int .u64 p.2.2]) (hy : a.eval y = .agg #[.int .u8 q.1, .int .u64 q.2.1, .int .u64 q.2.2]) (W : World) : (execOp a.eval o).run Try.prog W = .ok (.value (.bool r)) W := by
  subst hr
  simp [execOp, hop, hx, hy, Sem.run_bind, eqg40, binOp, eq40]
set_option maxRecDepth 20000 in
theorem same_ids (v u : Value) (xs ys : List PID) (w : World) (F G : Nat → Prop) (hv : Sl kID w F v xs) (hu : Sl kID w G u ys) : Calls Try.prog 11 #[v, u] w fun e w' => e = .returned (.bool (decide (xs = ys))) ∧ Kept No w w' := by
  obtain ⟨A, c, rfl, hc1, hc2⟩ := hv.slice
  obtain ⟨B, d, rfl, hd1, hd2⟩ := hu.slice
  simp only [maxLen] at hc2 hd2
  by_cases hlen : xs.length = ys.length
  · rcases sl_ids hv with ⟨rfl, A', c', e⟩ | ⟨h0, h1, b, off, c', e, h2, h3, hF, hb, hcx⟩
    · have hy : ys = [] := List.eq_nil_of_length_eq_zero hlen.symm
      subst hy
      simp only [List.length_nil]
      go_enter Try.func11, Try.ntmps11
      go_wp2
      go_loopw [13] (fun i wr => i = .int .i64 0 ∧ w = wr) (fun _ _ => 0)
      case atStart => exact ⟨by first | rfl | trivial, by first | rfl | trivial⟩
      case round =>
        obtain ⟨rfl, rfl⟩ := hrel
        go_wp2
        go_ret
        exact ⟨by simp, Kept.refl _ _⟩
    · rcases sl_ids hu with ⟨rfl, B', d', e'⟩ | ⟨_, _, b2, off2, d', e', _, _, hG, hb2, hcy⟩
      · simp only [List.length_nil] at hlen; omega
      · simp only [Value.slice.injEq] at e e'
        obtain ⟨rfl, _, rfl⟩ := e
        obtain ⟨rfl, _, rfl⟩ := e'
        rw [← hlen] at hd1 ⊢
        obtain ⟨n, hn⟩ : ∃ n, n = xs.length := ⟨_, rfl⟩
        rw [← hn] at h0 h1 h2 hd1 ⊢
        obtain ⟨R, hR⟩ : ∃ R, R = decide (xs = ys) := ⟨_, rfl⟩
        rw [← hR]
        have HH : Hid (n = xs.length ∧ n = ys.length ∧ R = decide (xs = ys) ∧
          (∀ j x, xs[j]? = some x → ∀ i u, [Value.int .u8 x.1, .int .u64 x.2][i]? = some u → w.cell? ⟨b, off + j * 2 + i, none⟩ = some u) ∧
          (∀ j y, ys[j]? = some y → ∀ i u, [Value.int .u8 y.1, .int .u64 y.2][i]? = some u → w.cell? ⟨b2, off2 + j * 2 + i, none⟩ = some u)) := ⟨hn, hn.trans hlen, hR, fun j x hx => (hcx j x hx).2, fun j y hy => (hcy j y hy).2⟩
        clear hn hR hcx hcy hlen hv hu hc1
        go_enter Try.func11, Try.ntmps11
        go_wp2
        go_loopw [13] (fun i wr => ∃ k : Nat, k ≤ n ∧ i = .int .i64 k ∧ (∀ j, j < k → xs[j]? = ys[j]?) ∧ Kept No w wr) (fun i _ => n - (intOf i).toNat)
        case atStart => exact ⟨0, Nat.zero_le _, rfl, fun _ h => absurd h (Nat.not_lt_zero _), Kept.refl _ _⟩
        case round =>
          obtain ⟨k, hk, rfl, hno, hke⟩ := hrel
          have HN : Hid ((∀ j, j < k → xs[j]? = ys[j]?) ∧ Kept No w wr) := ⟨hno, hke⟩
          clear hno hke
          by_cases hlt : k < n
          · obtain ⟨x, hx⟩ : ∃ x, xs[k]? = some x := ⟨_, List.getElem?_eq_getElem (by rw [← HH.out.1]; exact hlt)⟩
            obtain ⟨y, hy⟩ : ∃ y, ys[k]? = some y := ⟨_, List.getElem?_eq_getElem (by rw [← HH.out.2.1]; exact hlt)⟩
            have hcell := fun i u hu => HN.out.2.cell (HH.out.2.2.2.1 k x hx i u hu) id
            have hcell2 := fun i u hu => HN.out.2.cell (HH.out.2.2.2.2 k y hy i u hu) id
            have HC : Hid ((∀ i u, [Value.int .u8 x.1, .int .u64 x.2][i]? = some u → wr.drew.cell? ⟨b, off + k * 2 + i, none⟩ = some u) ∧ (∀ i u, [Value.int .u8 y.1, .int .u64 y.2][i]? = some u → wr.drew.cell? ⟨b2, off2 + k * 2 + i, none⟩ = some u)) := ⟨hcell, hcell2⟩
            obtain ⟨bv, hbv⟩ : ∃ bv, bv = decide (x = y) := ⟨_, rfl⟩
            have HB : Hid (bv = decide (x = y) ∧ xs[k]? = some x ∧ ys[k]? = some y) := ⟨hbv, hx, hy⟩
            clear hbv hx hy hcell hcell2
            go_wp2
            refine wp_region_plan No (.pur 0 (.pur 1 (.pur 2 (.pur 4 (.pur 5 (.pur 6 (.rd 3 (.rd 7 (.pur 8 .fin))))))))) [] mixed (by kernel_rfl) ?_
            repeat ((first | refine pl_pur (by simp only [List.getD_cons_succ, List.getD_cons_zero]; rfl) _ (by rfl) (fun W => by go_simp; with_reducible rfl) ?_ | refine pl_rd (by simp only [List.getD_cons_succ, List.getD_cons_zero]; rfl) _ (by rfl) (fun W hW => by have hc := kcell hW; clear hW; go_simp; with_reducible rfl) ?_); simp only [Act.put, List.setIfInBounds_toArray, List.set_cons_zero, List.set_cons_succ])
            refine pl_loadw (by simp only [List.getD_cons_succ, List.getD_cons_zero]; rfl) (by rfl) (.tmp 18) 33 (by rfl) b (off + k * 2) (by rfl) _ agg33 HC.out.1 (fun h => h) ?_
            simp only [Act.put, List.setIfInBounds_toArray, List.set_cons_zero, List.set_cons_succ]
            refine pl_loadw (by simp only [List.getD_cons_succ, List.getD_cons_zero]; rfl) (by rfl) (.tmp 22) 33 (by rfl) b2 (off2 + k * 2) (by rfl) _ agg33 HC.out.2 (fun h => h) ?_
            simp only [Act.put, List.setIfInBounds_toArray, List.set_cons_zero, List.set_cons_succ]
            refine pl_pur (by simp only [List.getD_cons_succ, List.getD_cons_zero]; rfl) _ (by rfl) (exec_neq33 HB.out.1 (by rfl) (by rfl) (by rfl)) ?_
            simp only [Act.put, List.setIfInBounds_toArray, List.set_cons_zero, List.set_cons_succ]
            refine pl_fin ?_
            cases bv
            · go_wp2
              go_ret
              refine ⟨ret_bool ?_, HN.out.2.drew⟩
              have h1 := HB.out
              have h2 := HH.out.2.2.1
              rw [h2]
              simp only [Bool.false_eq_true, decide_eq_true_eq, false_iff]
              intro e
              rw [e, h1.2.2] at h1
              have h3 := h1.2.1
              simp at h3
              simp [h3] at h1
            · go_wp2
              go_roundw
              case rel =>
                refine ⟨k + 1, by omega, by go_num, fun j hj => ?_, HN.out.2.drew⟩
                rcases Nat.lt_or_ge j k with h | h
                · exact HN.out.1 j h
                · have : j = k := by omega
                  subst this
                  have h1 := HB.out
                  rw [h1.2.1, h1.2.2]
                  simpa using h1.1
              case measure => simp [intOf]; omega
          · go_wp2
            go_ret
            refine ⟨ret_bool ?_, HN.out.2⟩
            have : k = n := by omega
            subst this
            rw [HH.out.2.2.1]
            simp only [decide_eq_true_eq, true_iff]
            apply List.ext_getElem?
            intro j
            rcases Nat.lt_or_ge j k with h | h
            · exact HN.out.1 j h
            · rw [List.getElem?_eq_none (by rw [← HH.out.1]; exact h), List.getElem?_eq_none (by rw [← HH.out.2.1]; exact h)]
  · obtain ⟨n, hn⟩ : ∃ n, n = xs.length := ⟨_, rfl⟩
    obtain ⟨m, hm⟩ : ∃ m, m = ys.length := ⟨_, rfl⟩
    have hR : decide (xs = ys) = false := by simp; intro e; exact hlen (by rw [e])
    rw [hR]
    rw [← hn, ← hm] at hlen
    rw [← hn, ← hm]
    clear hn hm hR hv hu hc1 hd1
    go_enter Try.func11, Try.ntmps11
    go_wp2
    go_ret
    exact ⟨rfl, Kept.refl _ _⟩
set_option maxRecDepth 20000 in
theorem same_runs (v u : Value) (xs ys : List PRun) (w : World) (F G : Nat → Prop) (hv : Sl kRun w F v xs) (hu : Sl kRun w G u ys) : Calls Try.prog 16 #[v, u] w fun e w' => e = .returned (.bool (decide (xs = ys))) ∧ Kept No w w' := by
  obtain ⟨A, c, rfl, hc1, hc2⟩ := hv.slice
  obtain ⟨B, d, rfl, hd1, hd2⟩ := hu.slice
  simp only [maxLen] at hc2 hd2
  by_cases hlen : xs.length = ys.length
  · rcases sl_runs hv with ⟨rfl, A', c', e⟩ | ⟨h0, h1, b, off, c', e, h2, h3, hF, hb, hcx⟩
    · have hy : ys = [] := List.eq_nil_of_length_eq_zero hlen.symm
      subst hy
      simp only [List.length_nil]
      go_enter Try.func16, Try.ntmps16
      go_wp2
      go_loopw [13] (fun i wr => i = .int .i64 0 ∧ w = wr) (fun _ _ => 0)
      case atStart => exact ⟨by first | rfl | trivial, by first | rfl | trivial⟩
      case round =>
        obtain ⟨rfl, rfl⟩ := hrel
        go_wp2
        go_ret
        exact ⟨by simp, Kept.refl _ _⟩
    · rcases sl_runs hu with ⟨rfl, B', d', e'⟩ | ⟨_, _, b2, off2, d', e', _, _, hG, hb2, hcy⟩
      · simp only [List.length_nil] at hlen; omega
      · simp only [Value.slice.injEq] at e e'
        obtain ⟨rfl, _, rfl⟩ := e
        obtain ⟨rfl, _, rfl⟩ := e'
        rw [← hlen] at hd1 ⊢
        obtain ⟨n, hn⟩ : ∃ n, n = xs.length := ⟨_, rfl⟩
        rw [← hn] at h0 h1 h2 hd1 ⊢
        obtain ⟨R, hR⟩ : ∃ R, R = decide (xs = ys) := ⟨_, rfl⟩
        rw [← hR]
        have HH : Hid (n = xs.length ∧ n = ys.length ∧ R = decide (xs = ys) ∧
          (∀ j x, xs[j]? = some x → ∀ i u, [Value.int .u8 x.1, .int .u64 x.2.1, .int .u64 x.2.2][i]? = some u → w.cell? ⟨b, off + j * 3 + i, none⟩ = some u) ∧
          (∀ j y, ys[j]? = some y → ∀ i u, [Value.int .u8 y.1, .int .u64 y.2.1, .int .u64 y.2.2][i]? = some u → w.cell? ⟨b2, off2 + j * 3 + i, none⟩ = some u)) := ⟨hn, hn.trans hlen, hR, fun j x hx => (hcx j x hx).2, fun j y hy => (hcy j y hy).2⟩
        clear hn hR hcx hcy hlen hv hu hc1
        go_enter Try.func16, Try.ntmps16
        go_wp2
        go_loopw [13] (fun i wr => ∃ k : Nat, k ≤ n ∧ i = .int .i64 k ∧ (∀ j, j < k → xs[j]? = ys[j]?) ∧ Kept No w wr) (fun i _ => n - (intOf i).toNat)
        case atStart => exact ⟨0, Nat.zero_le _, rfl, fun _ h => absurd h (Nat.not_lt_zero _), Kept.refl _ _⟩
        case round =>
          obtain ⟨k, hk, rfl, hno, hke⟩ := hrel
          have HN : Hid ((∀ j, j < k → xs[j]? = ys[j]?) ∧ Kept No w wr) := ⟨hno, hke⟩
          clear hno hke
          by_cases hlt : k < n
          · obtain ⟨x, hx⟩ : ∃ x, xs[k]? = some x := ⟨_, List.getElem?_eq_getElem (by rw [← HH.out.1]; exact hlt)⟩
            obtain ⟨y, hy⟩ : ∃ y, ys[k]? = some y := ⟨_, List.getElem?_eq_getElem (by rw [← HH.out.2.1]; exact hlt)⟩
            have hcell := fun i u hu => HN.out.2.cell (HH.out.2.2.2.1 k x hx i u hu) id
            have hcell2 := fun i u hu => HN.out.2.cell (HH.out.2.2.2.2 k y hy i u hu) id
            have HC : Hid ((∀ i u, [Value.int .u8 x.1, .int .u64 x.2.1, .int .u64 x.2.2][i]? = some u → wr.drew.cell? ⟨b, off + k * 3 + i, none⟩ = some u) ∧ (∀ i u, [Value.int .u8 y.1, .int .u64 y.2.1, .int .u64 y.2.2][i]? = some u → wr.drew.cell? ⟨b2, off2 + k * 3 + i, none⟩ = some u)) := ⟨hcell, hcell2⟩
            obtain ⟨bv, hbv⟩ : ∃ bv, bv = decide (x = y) := ⟨_, rfl⟩
            have HB : Hid (bv = decide (x = y) ∧ xs[k]? = some x ∧ ys[k]? = some y) := ⟨hbv, hx, hy⟩
            clear hbv hx hy hcell hcell2
            go_wp2
            refine wp_region_plan No (.pur 0 (.pur 1 (.pur 2 (.pur 4 (.pur 5 (.pur 6 (.rd 3 (.rd 7 (.pur 8 .fin))))))))) [] mixed (by kernel_rfl) ?_
            repeat ((first | refine pl_pur (by simp only [List.getD_cons_succ, List.getD_cons_zero]; rfl) _ (by rfl) (fun W => by go_simp; with_reducible rfl) ?_ | refine pl_rd (by simp only [List.getD_cons_succ, List.getD_cons_zero]; rfl) _ (by rfl) (fun W hW => by have hc := kcell hW; clear hW; go_simp; with_reducible rfl) ?_); simp only [Act.put, List.setIfInBounds_toArray, List.set_cons_zero, List.set_cons_succ])
            refine pl_loadw (by simp only [List.getD_cons_succ, List.getD_cons_zero]; rfl) (by rfl) (.tmp 18) 40 (by rfl) b (off + k * 3) (by rfl) _ agg40 HC.out.1 (fun h => h) ?_
            simp only [Act.put, List.setIfInBounds_toArray, List.set_cons_zero, List.set_cons_succ]
            refine pl_loadw (by simp only [List.getD_cons_succ, List.getD_cons_zero]; rfl) (by rfl) (.tmp 22) 40 (by rfl) b2 (off2 + k * 3) (by rfl) _ agg40 HC.out.2 (fun h => h) ?_
            simp only [Act.put, List.setIfInBounds_toArray, List.set_cons_zero, List.set_cons_succ]
            refine pl_pur (by simp only [List.getD_cons_succ, List.getD_cons_zero]; rfl) _ (by rfl) (exec_neq40 HB.out.1 (by rfl) (by rfl) (by rfl)) ?_
            simp only [Act.put, List.setIfInBounds_toArray, List.set_cons_zero, List.set_cons_succ]
            refine pl_fin ?_
            cases bv
            · go_wp2
              go_ret
              refine ⟨ret_bool ?_, HN.out.2.drew⟩
              have h1 := HB.out
              have h2 := HH.out.2.2.1
              rw [h2]
              simp only [Bool.false_eq_true, decide_eq_true_eq, false_iff]
              intro e
              rw [e, h1.2.2] at h1
              have h3 := h1.2.1
              simp at h3
              simp [h3] at h1
            · go_wp2
              go_roundw
              case rel =>
                refine ⟨k + 1, by omega, by go_num, fun j hj => ?_, HN.out.2.drew⟩
                rcases Nat.lt_or_ge j k with h | h
                · exact HN.out.1 j h
                · have : j = k := by omega
                  subst this
                  have h1 := HB.out
                  rw [h1.2.1, h1.2.2]
                  simpa using h1.1
              case measure => simp [intOf]; omega
          · go_wp2
            go_ret
            refine ⟨ret_bool ?_, HN.out.2⟩
            have : k = n := by omega
            subst this
            rw [HH.out.2.2.1]
            simp only [decide_eq_true_eq, true_iff]
            apply List.ext_getElem?
            intro j
            rcases Nat.lt_or_ge j k with h | h
            · exact HN.out.1 j h
            · rw [List.getElem?_eq_none (by rw [← HH.out.1]; exact h), List.getElem?_eq_none (by rw [← HH.out.2.1]; exact h)]
  · obtain ⟨n, hn⟩ : ∃ n, n = xs.length := ⟨_, rfl⟩
    obtain ⟨m, hm⟩ : ∃ m, m = ys.length := ⟨_, rfl⟩
    have hR : decide (xs = ys) = false := by simp; intro e; exact hlen (by rw [e])
    rw [hR]
    rw [← hn, ← hm] at hlen
    rw [← hn, ← hm]
    clear hn hm hR hv hu hc1 hd1
    go_enter Try.func16, Try.ntmps16
    go_wp2
    go_ret
    exact ⟨rfl, Kept.refl _ _⟩
end Go.Proofs.Ytjokkmhndahnkaa
