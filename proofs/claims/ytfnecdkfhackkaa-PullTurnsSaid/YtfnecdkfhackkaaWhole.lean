/- Structs read and written whole, whatever their cells. Plain lemmas, no program. -/
import Derived.Test.YtfnecdkfhackkaaKinds
set_option linter.unusedVariables false
set_option linter.unusedSimpArgs false
namespace Go.Proofs.Ytfnecdkfhackkaa
open Go.RowKit
section
variable {P : Program}

/-- Type ty is a struct or an array of n cells. -/
structure Agg (P : Program) (ty : TypeId) (n : Nat) : Prop where
  agg : ∀ w, (isAgg ty).run P w = .ok true w
  size : (P.info? ty).map (·.size) = some n
theorem Agg.mk' {ty n : Nat} {d : TypeDesc} (hu : P.underlying ty = some d) (hd : (match d with | .struct _ | .array _ _ => true | _ => false) = true) (hi : (P.info? ty).map (·.size) = some n) : Agg P ty n :=
  ⟨fun w => by
    unfold isAgg
    rw [Sem.run_bind, run_underlying hu w]
    cases d <;> simp_all, hi⟩
theorem run_load_whole {w : World} {ty b off : Nat} {cs : List Value} (hA : Agg P ty cs.length) (hc : ∀ i u, cs[i]? = some u → w.cell? ⟨b, off + i, none⟩ = some u) :
    (loadVar ty ⟨b, off, none⟩).run P w = .ok (.agg cs.toArray) w := by
  have hl := run_loadCells_list (P := P) w ⟨b, off, none⟩ cs (fun j v hv => by rw [Addr.add_lit]; exact hc j v hv)
  obtain ⟨i, hi, hs⟩ := Option.map_eq_some_iff.1 hA.size
  simp [loadVar, Sem.run_bind, hA.agg, sizeOf, typeInfo, hi, hs, hl]
theorem run_store_whole {w : World} {ty e g off : Nat} {cs : List Value} {cur : Array Value} (hA : Agg P ty cs.length) (hg : w.heap[g]? = some (.cells cur e (0, 0))) (hfit : off + cs.length ≤ cur.size) (h1 : ∀ u ∈ cs, u.oneCell' = true) :
    (storeVar ty ⟨g, off, none⟩ (.agg cs.toArray)).run P w = .ok () (w.setRow g (cur.toList.take off ++ cs ++ cur.toList.drop (off + cs.length)).toArray) := by
  have hst := run_storeCells_at P g off e cs 0 cur w hg (by simpa using hfit) h1
  simp only [Nat.add_zero] at hst
  obtain ⟨i, hi, hs⟩ := Option.map_eq_some_iff.1 hA.size
  simp [storeVar, Sem.run_bind, sizeOf, typeInfo, hi, hs, Value.cells, hst]
theorem wpList_load_whole {w : World} {ops : Array Oper} {rest : List Oper} {o : Oper} {a : Act} {Q : Exit → Act → World → Prop} (hgd : o.guard = none) (x : Operand) (ty : TypeId) (ho : o.op = .load ty x)
    (b off : Nat) (hx : a.eval x = .pointer (some ⟨b, off, none⟩)) (cs : List Value) (hA : Agg P ty cs.length) (hc : ∀ i u, cs[i]? = some u → w.cell? ⟨b, off + i, none⟩ = some u)
    (h : wpList P ops Q rest (a.put o.dst (.agg cs.toArray)) w) : wpList P ops Q (o :: rest) a w := by
  refine wpList_plain hgd fun K hK => ?_
  have hrun : (execOp a.eval o).run P w = .ok (.value (.agg cs.toArray)) w := by
    simp only [execOp, ho, Instr.loadAt, hx]
    simp [Instr.sureAddr, run_load_whole hA hc]
  simp only [Oper.wp, hrun, Oper.upon]
  exact hK _ _ h
theorem wpList_store_whole {w : World} {ops : Array Oper} {rest : List Oper} {o : Oper} {a : Act} {Q : Exit → Act → World → Prop} (hgd : o.guard = none) (x y : Operand) (ty : TypeId) (ho : o.op = .store ty x y)
    (g off e : Nat) (hx : a.eval x = .pointer (some ⟨g, off, none⟩)) (cs : List Value) (hy : a.eval y = .agg cs.toArray) (hA : Agg P ty cs.length) (cur : Array Value) (hg : w.heap[g]? = some (.cells cur e (0, 0))) (hfit : off + cs.length ≤ cur.size)
    (h1 : ∀ u ∈ cs, u.oneCell' = true) (h : ∀ w', Hid (w' = w.setRow g (cur.toList.take off ++ cs ++ cur.toList.drop (off + cs.length)).toArray) → wpList P ops Q rest (a.put o.dst undef) w') : wpList P ops Q (o :: rest) a w := by
  refine wpList_plain hgd fun K hK => ?_
  have hrun : (execOp a.eval o).run P w = .ok .skip (w.setRow g (cur.toList.take off ++ cs ++ cur.toList.drop (off + cs.length)).toArray) := by
    simp only [execOp, ho, Instr.storeAt, hx, hy]
    simp [Instr.sureAddr, run_store_whole hA hg hfit h1]
  simp only [Oper.wp, hrun, Oper.upon]
  exact hK _ _ (h _ rfl)
theorem setRow_alloc (w : World) (z cs : Array Value) (e : TypeId) : (w.alloc (.cells z e)).setRow w.heap.size cs = w.alloc (.cells cs e) := by
  unfold World.setRow World.alloc
  congr 1
  apply Array.ext_getElem?
  intro i
  rw [Array.getElem?_modify, Array.getElem?_push, Array.getElem?_push]
  by_cases hi : w.heap.size = i
  · subst hi; simp
  · simp [hi, Ne.symm hi]
/-- A variable that was just laid is filled whole. -/
theorem wpList_store_new {w : World} {ops : Array Oper} {rest : List Oper} {o : Oper} {a : Act} {Q : Exit → Act → World → Prop} (hgd : o.guard = none) (x y : Operand) (ty : TypeId) (ho : o.op = .store ty x y)
    (e : Nat) (hx : a.eval x = .pointer (some ⟨w.heap.size, 0, none⟩)) (cs : List Value) (hy : a.eval y = .agg cs.toArray) (hA : Agg P ty cs.length) (z : Array Value) (hz : z.size = cs.length)
    (h1 : ∀ u ∈ cs, u.oneCell' = true) (h : wpList P ops Q rest (a.put o.dst undef) (w.alloc (.cells cs.toArray e))) : wpList P ops Q (o :: rest) a (w.alloc (.cells z e)) := by
  refine wpList_store_whole hgd x y ty ho w.heap.size 0 e hx cs hy hA z (heap_alloc_new _ _) (by omega) h1 ?_
  intro w' hw'
  rw [hw'.out, setRow_alloc]
  have e1 : z.toList.drop (0 + cs.length) = [] := List.drop_eq_nil_of_le (by simp; omega)
  rw [e1]
  simpa using h
theorem Kept.setRow {F : Nat → Prop} {a w : World} (h : Kept F a w) {g : Nat} (hp : g < a.heap.size → F g) (cs : Array Value) : Kept F a (w.setRow g cs) :=
  ⟨h.os, h.tape, h.output, by have := h.size; simpa using this, fun k hk hn => (setRow_other w g k cs (fun e => by subst e; exact hn (hp hk))).trans (h.block k hk hn)⟩
end
/-- What a store of one element into a row leaves of its window. -/
theorem Win.set {w : World} {e : TypeId} {size n g off cap : Nat} {xs : List Value} (h : Win w e size (.slice (some ⟨g, off, none⟩) n cap) n xs) {i : Nat} (hi : i < n) {cs : List Value} (hcs : cs.length = size) :
    ∃ cur, w.heap[g]? = some (.cells cur e (0, 0)) ∧ off + i * size + cs.length ≤ cur.size ∧
      Win (w.setRow g (cur.toList.take (off + i * size) ++ cs ++ cur.toList.drop (off + i * size + cs.length)).toArray) e size (.slice (some ⟨g, off, none⟩) n cap) n (xs.take (i * size) ++ cs ++ xs.drop ((i + 1) * size)) := by
  obtain ⟨hl, h2⟩ := h
  rcases h2 with ⟨h0, _⟩ | ⟨g', off', cap', cur, hv, hg, h1, h3, h4, h5⟩
  · cases h0
  · simp only [Value.slice.injEq, Option.some.injEq, Addr.mk.injEq] at hv
    obtain ⟨⟨rfl, rfl, _⟩, _, rfl⟩ := hv
    have m1 : i * size + size ≤ n * size := by rw [← Nat.succ_mul]; exact Nat.mul_le_mul_right _ hi
    have m2 := Nat.mul_le_mul_right size h1
    refine ⟨cur, hg, by omega, ⟨?_, .inr ⟨g, off, cap, _, rfl, setRow_heap w g cur _ e _ hg, h1, h3, ?_, ?_⟩⟩⟩
    · simp only [List.length_append, List.length_take, List.length_drop, hcs, hl, Nat.succ_mul]
      omega
    · simp only [List.size_toArray, List.length_append, List.length_take, List.length_drop, Array.length_toList]
      omega
    · subst h5
      apply List.ext_getElem?
      intro j
      simp only [List.getElem?_take, List.getElem?_drop, List.getElem?_append, List.length_append, List.length_take, List.length_drop, Array.length_toList, Nat.succ_mul]
      have hsz : off + n * size ≤ cur.size := by omega
      by_cases hj : j < n * size
      · simp only [hj, if_true]
        rcases Nat.lt_or_ge j (i * size) with hj1 | hj1
        · have c1 : off + j < min (off + i * size) cur.size + cs.length := by omega
          have c2 : off + j < min (off + i * size) cur.size := by omega
          have c3 : off + j < off + i * size := by omega
          have c4 : j < min (i * size) (min (n * size) (cur.size - off)) + cs.length := by omega
          have c5 : j < min (i * size) (min (n * size) (cur.size - off)) := by omega
          simp [c1, c2, c3, c4, c5, hj1, hj]
        · rcases Nat.lt_or_ge j (i * size + size) with hj2 | hj2
          · have c1 : off + j < min (off + i * size) cur.size + cs.length := by omega
            have c2 : ¬ off + j < min (off + i * size) cur.size := by omega
            have c4 : j < min (i * size) (min (n * size) (cur.size - off)) + cs.length := by omega
            have c5 : ¬ j < min (i * size) (min (n * size) (cur.size - off)) := by omega
            have c6 : off + j - min (off + i * size) cur.size = j - min (i * size) (min (n * size) (cur.size - off)) := by omega
            simp [c1, c2, c4, c5, c6]
          · have c1 : ¬ off + j < min (off + i * size) cur.size + cs.length := by omega
            have c4 : ¬ j < min (i * size) (min (n * size) (cur.size - off)) + cs.length := by omega
            have c6 : off + i * size + cs.length + (off + j - (min (off + i * size) cur.size + cs.length)) = off + j := by omega
            have c7 : i * size + size + (j - (min (i * size) (min (n * size) (cur.size - off)) + cs.length)) = j := by omega
            simp [c1, c4, c6, c7, hj]
      · have c4 : ¬ j < min (i * size) (min (n * size) (cur.size - off)) + cs.length := by omega
        have c7 : i * size + size + (j - (min (i * size) (min (n * size) (cur.size - off)) + cs.length)) = j := by omega
        simp [hj, c4, c7]
theorem Win.takeN {w : World} {e : TypeId} {size n k cap : Nat} {A : Option Addr} {xs : List Value} (h : Win w e size (.slice A n cap) n xs) (hk : k ≤ n) : Win w e size (.slice A k cap) k (xs.take (k * size)) := by
  obtain ⟨hl, h2⟩ := h
  have hm := Nat.mul_le_mul_right size hk
  refine ⟨by rw [List.length_take]; omega, ?_⟩
  rcases h2 with ⟨h0, rfl⟩ | ⟨g, off, cap', cur, hv, hg, h1, h3, h4, h5⟩
  · simp only [Value.slice.injEq] at h0
    obtain ⟨rfl, _, rfl⟩ := h0
    have : k = 0 := by omega
    subst this
    exact .inl ⟨rfl, rfl⟩
  · simp only [Value.slice.injEq] at hv
    obtain ⟨rfl, _, rfl⟩ := hv
    exact .inr ⟨g, off, cap, cur, rfl, hg, by omega, h3, h4, by rw [← h5, List.take_take, Nat.min_eq_left hm]⟩
section
variable {P : Program}
theorem zeroCells_one {z : Value} (hz : ∀ u ∈ z.cells, u.oneCell' = true) (n : Nat) : ∀ u ∈ (Builtin.zeroCells z.cells n).toList, u.oneCell' = true := by
  intro u hu
  simp only [Builtin.zeroCells, Array.toList_map, List.mem_map] at hu
  obtain ⟨i, hi, rfl⟩ := hu
  have hpos : 0 < z.cells.size := by
    simp only [Array.toList_range, List.mem_range] at hi
    exact Nat.pos_of_ne_zero (fun h => by rw [h] at hi; omega)
  have hlt : i % z.cells.size < z.cells.size := Nat.mod_lt _ hpos
  rw [getElem!_pos z.cells _ hlt]
  exact hz _ (Array.getElem_mem hlt)
/-- clear(s[i:]) -/
theorem wpList_clear_win {w : World} {ops : Array Oper} {rest : List Oper} {o : Oper} {a : Act} {Q : Exit → Act → World → Prop} (hgd : o.guard = none) (x : Operand) (t e : TypeId)
    (ho : o.op = .call { callee := .builtin .clear, args := #[x], argTypes := #[t] }) (z : Value) (size bytes : Nat) (ht : P.underlying t = some (.slice e))
    (hinfo : (P.info? e).map (fun i => (i.zero, i.size, i.bytes)) = some (some z, size, bytes)) (hzs : z.cells.size = size) (hz1 : ∀ u ∈ z.cells, u.oneCell' = true)
    (g off n cap i : Nat) (xs : List Value) (A : Option Addr) (m0 c : Nat) (hm0 : m0 = n - i) (hx : a.eval x = .slice A m0 c) (hA : i < n → A = some ⟨g, off + i * size, none⟩) (hw : Win w e size (.slice (some ⟨g, off, none⟩) n cap) n xs) (hi : i ≤ n)
    (h : ∀ w' xs', Kept (fun k => k = g) w w' → Win w' e size (.slice (some ⟨g, off, none⟩) n cap) n xs' → xs'.take (i * size) = xs.take (i * size) → wpList P ops Q rest (a.put o.dst (.tuple #[])) w') : wpList P ops Q (o :: rest) a w := by
  subst hm0
  refine wpList_plain hgd fun K hK => ?_
  obtain ⟨i0, hi0, hzz⟩ := Option.map_eq_some_iff.1 hinfo
  simp only [Prod.mk.injEq] at hzz
  obtain ⟨hz0, hsz, _⟩ := hzz
  rcases Nat.lt_or_ge i n with hlt | hge
  · have hA' := hA hlt
    subst hA'
    have hw' := hw
    obtain ⟨hl, h2⟩ := hw
    rcases h2 with ⟨h0, _⟩ | ⟨g', off', cap', cur, hv, hg, h1, h3, h4, h5⟩
    · cases h0
    · simp only [Value.slice.injEq, Option.some.injEq, Addr.mk.injEq] at hv
      obtain ⟨⟨rfl, rfl, _⟩, _, rfl⟩ := hv
      obtain ⟨zc, hzc⟩ : ∃ zc, zc = (Builtin.zeroCells z.cells (n - i)).toList := ⟨_, rfl⟩
      have hzl : zc.length = (n - i) * size := by rw [hzc, Array.length_toList, size_zeroCells, hzs]
      have m1 := Nat.mul_le_mul_right size h1
      have m2 : i * size + (n - i) * size = n * size := by rw [← Nat.add_mul]; congr 1; omega
      have hst := run_storeCells_at P g (off + i * size) e zc 0 cur w hg (by omega) (by rw [hzc]; exact zeroCells_one hz1 _)
      simp only [Nat.add_zero] at hst
      obtain ⟨m, hm⟩ : ∃ m, n - i = m + 1 := ⟨n - i - 1, by omega⟩
      have hrun : (execOp a.eval o).run P w = .ok (.value (.tuple #[])) (w.setRow g (cur.toList.take (off + i * size) ++ zc ++ cur.toList.drop (off + i * size + zc.length)).toArray) := by
        simp only [execOp, ho, resolve]
        rw [hm] at hx hzc
        rw [hzc] at hst ⊢
        simp [hx, invoke, builtin, Builtin.clear_, run_underlying ht, zeroValue, typeInfo, hi0, hz0, hst]
      simp only [Oper.wp, hrun, Oper.upon]
      have key : (((cur.toList.take (off + i * size) ++ zc ++ cur.toList.drop (off + i * size + zc.length)).drop off).take (n * size)).take (i * size) = xs.take (i * size) := by
        rw [List.take_take, Nat.min_eq_left (by omega), ← h5, List.take_take, Nat.min_eq_left (by omega)]
        apply List.ext_getElem?
        intro j
        simp only [List.getElem?_take, List.getElem?_drop, List.getElem?_append, List.length_append, List.length_take, Array.length_toList]
        split
        · rename_i hj
          have c1 : off + j < min (off + i * size) cur.size + zc.length := by omega
          have c2 : off + j < min (off + i * size) cur.size := by omega
          have c3 : off + j < off + i * size := by omega
          simp [c1, c2, c3]
        · rfl
      refine hK _ _ (h _ _ ((Kept.refl (fun k => k = g) w).setRow (fun _ => rfl) _) ⟨?_, .inr ⟨g, off, cap, _, rfl, setRow_heap w g cur _ e _ hg, h1, h3, ?_, rfl⟩⟩ key)
      · simp only [List.length_append, List.length_take, List.length_drop, Array.length_toList, List.toList_toArray]
        omega
      · simp only [List.size_toArray, List.length_append, List.length_take, List.length_drop, Array.length_toList]
        omega
  · have hni : n - i = 0 := by omega
    rw [hni] at hx
    have hrun : (execOp a.eval o).run P w = .ok (.value (.tuple #[])) w := by
      simp only [execOp, ho, resolve]
      cases A <;> simp [hx, invoke, builtin, Builtin.clear_, run_underlying ht]
    simp only [Oper.wp, hrun, Oper.upon]
    exact hK _ _ (h w xs (Kept.refl _ _) hw rfl)
end
theorem Reps.setAt {α : Type} {R : α → List Value → Prop} {size : Nat} {ps : List α} {cs cs' : List Value} (h : Reps R size ps cs) {j : Nat} {p : α} (hj : j < ps.length) (hlen : cs'.length = cs.length)
    (hout : ∀ i, (i < j * size ∨ (j + 1) * size ≤ i) → cs'[i]? = cs[i]?) (hin : R p ((cs'.drop (j * size)).take size)) : Reps R size (ps.set j p) cs' := by
  refine ⟨by rw [hlen, h.1, List.length_set], fun k q hq => ?_⟩
  by_cases hkj : j = k
  · subst hkj
    have : p = q := by simpa [hj] using hq
    subst this
    exact hin
  · rw [List.getElem?_set_ne hkj] at hq
    have h2 := h.2 k q hq
    have h3 : (cs'.drop (k * size)).take size = (cs.drop (k * size)).take size := by
      apply List.ext_getElem?
      intro i
      rw [List.getElem?_take, List.getElem?_take]
      split
      · rename_i hi
        rw [List.getElem?_drop, List.getElem?_drop]
        refine hout _ ?_
        rcases Nat.lt_or_ge k j with hlt | hge
        · refine .inl ?_
          have := Nat.mul_le_mul_right size hlt
          rw [Nat.succ_mul] at this
          omega
        · refine .inr ?_
          have hlt : j + 1 ≤ k := by omega
          have := Nat.mul_le_mul_right size hlt
          omega
      · rfl
    rw [h3]
    exact h2
theorem TW.set {α : Type} {d : Kd α} {e : TypeId} {w : World} {G : Nat → Prop} {g off n cap : Nat} {ys : List α} (h : TW d e w G (.slice (some ⟨g, off, none⟩) n cap) ys) (hn : ys.length = n) {i : Nat} (hi : i < n) {x : α} {cs : List Value} (hx : d.K w G x cs) :
    ∃ cur, w.heap[g]? = some (.cells cur e (0, 0)) ∧ off + i * d.sz + cs.length ≤ cur.size ∧
      TW d e (w.setRow g (cur.toList.take (off + i * d.sz) ++ cs ++ cur.toList.drop (off + i * d.sz + cs.length)).toArray) G (.slice (some ⟨g, off, none⟩) n cap) (ys.set i x) := by
  obtain ⟨yc, h1, h2, h3⟩ := h
  rw [hn] at h1
  have hcl := d.len hx
  obtain ⟨cur, hg, hfit, hw⟩ := h1.set hi hcl
  have hGg : ¬ G g := h3 g rfl
  have hmv : ∀ k, G k → k < w.heap.size → (w.setRow g (cur.toList.take (off + i * d.sz) ++ cs ++ cur.toList.drop (off + i * d.sz + cs.length)).toArray).heap[k]? = w.heap[k]? := fun k hk _ => setRow_other w g k _ (fun e => hGg (e ▸ hk))
  refine ⟨cur, hg, hfit, _, by rw [List.length_set, hn]; exact hw, ?_, h3⟩
  have hyl : yc.length = n * d.sz := by rw [h2.1, hn]
  have m1 : i * d.sz + d.sz ≤ n * d.sz := by rw [← Nat.succ_mul]; exact Nat.mul_le_mul_right _ hi
  refine (h2.imp fun _ _ => d.move hmv).setAt (by omega) ?_ (fun j hj => ?_) ?_
  · simp only [List.length_append, List.length_take, List.length_drop, hcl, hyl, Nat.succ_mul]; omega
  · have hmin : min (i * d.sz) (n * d.sz) = i * d.sz := by omega
    simp only [List.getElem?_append, List.length_append, List.length_take, hyl, hcl, List.getElem?_take, List.getElem?_drop, Nat.succ_mul, hmin] at hj ⊢
    rcases hj with hj | hj
    · rw [if_pos (by omega), if_pos hj, if_pos hj]
    · rw [if_neg (by omega)]
      congr 1
      omega
  · have e1 : ((yc.take (i * d.sz) ++ cs ++ yc.drop ((i + 1) * d.sz)).drop (i * d.sz)).take d.sz = cs := by
      have hl : (yc.take (i * d.sz)).length = i * d.sz := by rw [List.length_take, hyl]; omega
      rw [List.append_assoc, List.drop_append_of_le_length (by omega), List.drop_eq_nil_of_le (by omega), List.nil_append, List.take_append_of_le_length (by omega)]
      exact List.take_of_length_le (by omega)
    rw [e1]
    exact d.move hmv hx
end Go.Proofs.Ytfnecdkfhackkaa
