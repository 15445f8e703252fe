/- The package store, second part: its memory; New; what it tells. -/
import Derived.Test.YtnmjholnnnclcaaSt1
set_option linter.unusedVariables false
set_option linter.unusedSimpArgs false
namespace Go.Proofs.Ytnmjholnnnclcaa
open Go.RowKit

def Nums (w : World) (b : Nat) (xs : List Int) : Prop := w.heap[b]? = some (.cells (xs.map (Value.int .u64)).toArray 28 (0, 0))
theorem Nums.lt {w : World} {b : Nat} {xs : List Int} (h : Nums w b xs) : b < w.heap.size := lt_of_heap h
theorem Nums.kept {w w1 : World} {F : Nat → Prop} {b : Nat} {xs : List Int} (h : Nums w b xs) (hk : Kept F w w1) (hb : ¬ F b) : Nums w1 b xs := (hk.block _ h.lt hb).trans h
theorem Nums.cell {w : World} {b : Nat} {xs : List Int} (h : Nums w b xs) {i : Nat} {x : Int} (hx : xs[i]? = some x) : w.cell? ⟨b, i, none⟩ = some (.int .u64 x) := by
  rw [cell_of_row w _ _ _ _ _ h]
  simp [hx]
theorem Nums.fro {w : World} {b : Nat} {xs : List Int} (h : Nums w b xs) (j : Nat) : w.frozen? ⟨b, j, none⟩ = false := frozen_of_row w b j _ _ h
theorem Nums.set {w : World} {b : Nat} {xs : List Int} (h : Nums w b xs) (i : Nat) (y : Int) : Nums (w.setCell ⟨b, i, none⟩ (.int .u64 y)) b (xs.set i y) := by
  show _ = _
  rw [heap_setCell_same w b i _ 28 _ h]
  congr 2
  apply Array.ext_getElem?
  intro j
  simp only [List.setIfInBounds_toArray, List.getElem?_toArray, List.map_set]
theorem Nums.sl {w : World} {b n : Nat} {xs : List Int} (h : Nums w b xs) (hn : xs.length = n) (hm : n ≤ maxLen) (hr : ∀ x ∈ xs, InR .u64 x) : Sl (kI .u64) w (fun k => k = b) (.slice (some ⟨b, 0, none⟩) n n) xs := by
  subst hn
  refine ⟨xs.map (.int .u64), ⟨_, _, rfl, Nat.le_refl _, hm, by simp [kI, flat], fun u hu => ?_, fun _ => ⟨b, 0, rfl, rfl, fun j u hj => ?_⟩⟩, reps_ints hr⟩
  · obtain ⟨x, _, rfl⟩ := List.mem_map.1 hu
    rfl
  · rw [List.getElem?_map] at hj
    obtain ⟨x, hx, rfl⟩ := Option.map_eq_some_iff.1 hj
    simpa using h.cell hx

/-- The memory of a store. -/
structure StoreAt (w : World) (sb mb fb hb n : Nat) (room used : Int) (l : List ((Int × Int) × Value)) (fl hd : List Int) : Prop where
  s : w.heap[sb]? = some (.cells #[.int .i64 room, .int .i64 used, .map (some mb), .slice (some ⟨fb, 0, none⟩) n n, .slice (some ⟨hb, 0, none⟩) n n] 52 (0, 0))
  m : MapIs encID w mb l
  f : Nums w fb fl
  h : Nums w hb hd
  fn : fl.length = n
  hn : hd.length = n
  n1 : 1 ≤ n
  n2 : n ≤ 64
  ne : fb ≠ hb
section
variable {w w1 : World} {sb mb fb hb n : Nat} {room used : Int} {l : List ((Int × Int) × Value)} {fl hd : List Int}
theorem StoreAt.c0 (H : StoreAt w sb mb fb hb n room used l fl hd) : w.cell? ⟨sb, 0, none⟩ = some (.int .i64 room) := by rw [cell_of_row w _ _ _ _ _ H.s]; rfl
theorem StoreAt.c1 (H : StoreAt w sb mb fb hb n room used l fl hd) : w.cell? ⟨sb, 1, none⟩ = some (.int .i64 used) := by rw [cell_of_row w _ _ _ _ _ H.s]; rfl
theorem StoreAt.c2 (H : StoreAt w sb mb fb hb n room used l fl hd) : w.cell? ⟨sb, 2, none⟩ = some (.map (some mb)) := by rw [cell_of_row w _ _ _ _ _ H.s]; rfl
theorem StoreAt.c3 (H : StoreAt w sb mb fb hb n room used l fl hd) : w.cell? ⟨sb, 3, none⟩ = some (.slice (some ⟨fb, 0, none⟩) n n) := by rw [cell_of_row w _ _ _ _ _ H.s]; rfl
theorem StoreAt.c4 (H : StoreAt w sb mb fb hb n room used l fl hd) : w.cell? ⟨sb, 4, none⟩ = some (.slice (some ⟨hb, 0, none⟩) n n) := by rw [cell_of_row w _ _ _ _ _ H.s]; rfl
theorem StoreAt.sfro (H : StoreAt w sb mb fb hb n room used l fl hd) (j : Nat) : w.frozen? ⟨sb, j, none⟩ = false := frozen_of_row w sb j _ _ H.s
theorem StoreAt.lt (H : StoreAt w sb mb fb hb n room used l fl hd) : sb < w.heap.size := lt_of_heap H.s
theorem StoreAt.sf (H : StoreAt w sb mb fb hb n room used l fl hd) : sb ≠ fb := by
  rintro rfl; have h := H.s.symm.trans H.f; simp at h
theorem StoreAt.sh (H : StoreAt w sb mb fb hb n room used l fl hd) : sb ≠ hb := by
  rintro rfl; have h := H.s.symm.trans H.h; simp at h
theorem StoreAt.sm (H : StoreAt w sb mb fb hb n room used l fl hd) : sb ≠ mb := by
  rintro rfl; obtain ⟨_, _, h, _⟩ := H.m; have h := H.s.symm.trans h; simp at h
theorem StoreAt.fm (H : StoreAt w sb mb fb hb n room used l fl hd) : fb ≠ mb := by
  rintro rfl; obtain ⟨_, _, h, _⟩ := H.m; have h := H.f.symm.trans h; simp at h
theorem StoreAt.hm (H : StoreAt w sb mb fb hb n room used l fl hd) : hb ≠ mb := by
  rintro rfl; obtain ⟨_, _, h, _⟩ := H.m; have h := H.h.symm.trans h; simp at h
theorem StoreAt.kept {F : Nat → Prop} (H : StoreAt w sb mb fb hb n room used l fl hd) (hk : Kept F w w1) (h1 : ¬ F sb) (h2 : ¬ F mb) (h3 : ¬ F fb) (h4 : ¬ F hb) : StoreAt w1 sb mb fb hb n room used l fl hd :=
  ⟨(hk.block _ H.lt h1).trans H.s, H.m.kept hk h2, H.f.kept hk h3, H.h.kept hk h4, H.fn, H.hn, H.n1, H.n2, H.ne⟩
theorem StoreAt.new (H : StoreAt w sb mb fb hb n room used l fl hd) (hk : Kept No w w1) : StoreAt w1 sb mb fb hb n room used l fl hd := H.kept hk id id id id
/-- The store's own blocks. -/
def OwnS (sb mb fb hb : Nat) : Nat → Prop := fun k => k = sb ∨ k = mb ∨ k = fb ∨ k = hb
/-- What is held of i is turned. -/
theorem StoreAt.held (H : StoreAt w sb mb fb hb n room used l fl hd) (i : Nat) (y : Int) : StoreAt (w.setCell ⟨hb, i, none⟩ (.int .u64 y)) sb mb fb hb n room used l fl (hd.set i y) := by
  have hk : Kept (fun k => k = hb) w (w.setCell ⟨hb, i, none⟩ (.int .u64 y)) := (Kept.refl (fun k => k = hb) w).setCell (p := ⟨hb, i, none⟩) (fun _ => rfl) _
  exact ⟨(hk.block _ H.lt H.sh).trans H.s, H.m.kept hk H.hm.symm, H.f.kept hk H.ne, H.h.set i y, H.fn, by rw [List.length_set]; exact H.hn, H.n1, H.n2, H.ne⟩
theorem StoreAt.floor (H : StoreAt w sb mb fb hb n room used l fl hd) (i : Nat) (y : Int) : StoreAt (w.setCell ⟨fb, i, none⟩ (.int .u64 y)) sb mb fb hb n room used l (fl.set i y) hd := by
  have hk : Kept (fun k => k = fb) w (w.setCell ⟨fb, i, none⟩ (.int .u64 y)) := (Kept.refl (fun k => k = fb) w).setCell (p := ⟨fb, i, none⟩) (fun _ => rfl) _
  exact ⟨(hk.block _ H.lt H.sf).trans H.s, H.m.kept hk H.fm.symm, H.f.set i y, H.h.kept hk H.ne.symm, by rw [List.length_set]; exact H.fn, H.hn, H.n1, H.n2, H.ne⟩
theorem StoreAt.uses (H : StoreAt w sb mb fb hb n room used l fl hd) (u : Int) : StoreAt (w.setCell ⟨sb, 1, none⟩ (.int .i64 u)) sb mb fb hb n room u l fl hd := by
  have hk : Kept (fun k => k = sb) w (w.setCell ⟨sb, 1, none⟩ (.int .i64 u)) := (Kept.refl (fun k => k = sb) w).setCell (p := ⟨sb, 1, none⟩) (fun _ => rfl) _
  exact ⟨heap_setCell_same w sb 1 _ 52 _ H.s, H.m.kept hk H.sm.symm, H.f.kept hk H.sf.symm, H.h.kept hk H.sh.symm, H.fn, H.hn, H.n1, H.n2, H.ne⟩
theorem StoreAt.maps {l' : List ((Int × Int) × Value)} (H : StoreAt w sb mb fb hb n room used l fl hd) (hk : Kept (fun k => k = mb) w w1) (hM : MapIs encID w1 mb l') : StoreAt w1 sb mb fb hb n room used l' fl hd :=
  ⟨(hk.block _ H.lt H.sm).trans H.s, hM, H.f.kept hk H.fm, H.h.kept hk H.hm, H.fn, H.hn, H.n1, H.n2, H.ne⟩
end

section
variable {P : Program} {F : Nat → Prop}
theorem gp_map {ops : Array Oper} {o : Oper} {a : Act} {w : World} {R : Act → World → Prop} (hg : o.guard = none) (t : TypeId) (hop : o.op = .makeMap t none)
    (h : ∀ w', MapIs encID w' w.heap.size [] → Kept F w w' → R (a.put o.dst (.map (some w.heap.size))) w') : wpList P ops (GPost F w R) [o] a w := by
  refine wpList_plain hg fun K hK => ?_
  have hrun : (execOp a.eval o).run P w = .ok (.value (.map (some w.heap.size))) (w.alloc (.map #[] 0)) := by
    simp only [execOp, hop, Option.map_none]
    simp [run_makeMap]
  simp only [Oper.wp, hrun, Oper.upon]
  refine hK _ _ (GPost.mk ((Kept.refl _ _).alloc _) (h _ ⟨#[], 0, heap_alloc_new _ _, rfl⟩ ((Kept.refl _ _).alloc _)))
theorem gp_nums {ops : Array Oper} {o : Oper} {a : Act} {w : World} {R : Act → World → Prop} (hg : o.guard = none) (l c : Operand) (t : TypeId) (hop : o.op = Op.makeSlice t l c)
    (ht : P.underlying t = some (.slice 28)) (hinfo : (P.info? 28).map (fun i => (i.zero, i.size, i.bytes)) = some (some (.int .u64 0), 1, 8)) (n : Nat) (N : Int) (hl : a.eval l = .int .i64 N) (hc : a.eval c = .int .i64 N) (hN : N = n) (hn : n ≤ 64)
    (h : ∀ w', Nums w' w.heap.size (List.replicate n 0) → Kept F w w' → R (a.put o.dst (.slice (some ⟨w.heap.size, 0, none⟩) n n)) w') : wpList P ops (GPost F w R) [o] a w := by
  obtain ⟨i, hi, hi2⟩ := Option.map_eq_some_iff.1 hinfo
  simp only [Prod.mk.injEq] at hi2
  obtain ⟨h3, h4, h5⟩ := hi2
  subst hN
  refine wpList_make_full w hg l c t hop w.heap.size 28 i (.int .u64 0) 1 ht hi h3 h4 .i64 .i64 n n n hl hc rfl rfl (by rw [h5]; omega) (by simp only [maxLen]; omega) (Nat.le_refl _) fun w' hr hgr => ?_
  have hk : Kept F w w' := (Kept.refl _ _).grown hgr fun k hk _ => by cases hk
  refine GPost.mk hk (h w' ?_ hk)
  obtain ⟨hlen, hr⟩ := hr
  rcases hr with ⟨hv, _⟩ | ⟨g, cap, cur, hv, hbase, hg', hn', hcap, hsz, htk⟩
  · cases hv
  · simp only [Value.slice.injEq, Option.some.injEq, Addr.mk.injEq] at hv
    obtain ⟨⟨rfl, _⟩, _, rfl⟩ := hv
    show _ = _
    rw [hg']
    congr 2
    apply Array.ext_getElem?
    intro j
    have e0 : cur.toList = (madeCells (Value.int .u64 0).cells (n * 1)).toList := by
      rw [← htk]
      exact (List.take_of_length_le (by simp; omega)).symm
    have e1 : cur = madeCells (Value.int .u64 0).cells (n * 1) := by simpa using e0
    rw [e1]
    by_cases hj : j < n
    · simp [madeCells, hj, Value.cells, Nat.mod_one]
    · simp [madeCells, hj, Value.cells]
theorem pl_fork3 {l : List Oper} {K : Act → World → Prop} {a : Act} {w : World} {i j k : Nat} {p q r : Plan} {o1 o2 o3 : Oper} (h1 : l.getD i default = o1) (h2 : l.getD j default = o2) (h3 : l.getD k default = o3)
    (g1 : wpList P l.toArray (GPost F w (wpPl P F l K p)) [o1] a w) (g2 : wpList P l.toArray (GPost F w (wpPl P F l K q)) [o2] a w) (g3 : wpList P l.toArray (GPost F w (wpPl P F l K r)) [o3] a w) : wpPl P F l K (.fork3 i j k p q r) a w := by
  subst h1 h2 h3; exact ⟨g1, g2, g3⟩
theorem pl_fork2 {l : List Oper} {K : Act → World → Prop} {a : Act} {w : World} {i j : Nat} {p q : Plan} {o1 o2 : Oper} (h1 : l.getD i default = o1) (h2 : l.getD j default = o2)
    (g1 : wpList P l.toArray (GPost F w (wpPl P F l K p)) [o1] a w) (g2 : wpList P l.toArray (GPost F w (wpPl P F l K q)) [o2] a w) : wpPl P F l K (.fork i j p q) a w := by
  subst h1 h2; exact ⟨g1, g2⟩
end
theorem info28 : (Try.prog.info? 28).map (fun i => (i.zero, i.size, i.bytes)) = some (some (.int .u64 0), 1, 8) := by kernel_rfl
theorem new_end {w0 w : World} {mb fb hb n : Nat} {room : Int} (hM : MapIs encID w mb []) (hF : Nums w fb (List.replicate n 0)) (hH : Nums w hb (List.replicate n 0)) (hne : fb ≠ hb) (hk : Kept No w0 w) (h1 : 1 ≤ n) (h2 : n ≤ 64)
    (l1 : w0.heap.size ≤ mb) (l2 : w0.heap.size ≤ fb) (l3 : w0.heap.size ≤ hb) :
    ∃ sb, Ending.returned (.pointer (some ⟨w.heap.size, 0, none⟩)) = .returned (.pointer (some ⟨sb, 0, none⟩)) ∧ ∃ mb' fb' hb', StoreAt (w.alloc (.cells #[.int .i64 room, .int .i64 0, .map (some mb), .slice (some ⟨fb, 0, none⟩) n n, .slice (some ⟨hb, 0, none⟩) n n] 52)) sb mb' fb' hb' n room 0 [] (List.replicate n 0) (List.replicate n 0) ∧
      Kept No w0 (w.alloc (.cells #[.int .i64 room, .int .i64 0, .map (some mb), .slice (some ⟨fb, 0, none⟩) n n, .slice (some ⟨hb, 0, none⟩) n n] 52)) ∧ ∀ k, OwnS sb mb' fb' hb' k → w0.heap.size ≤ k := by
  have ka : Kept No w (w.alloc (.cells #[.int .i64 room, .int .i64 0, .map (some mb), .slice (some ⟨fb, 0, none⟩) n n, .slice (some ⟨hb, 0, none⟩) n n] 52)) := (Kept.refl _ _).alloc _
  refine ⟨w.heap.size, rfl, mb, fb, hb, ⟨heap_alloc_new _ _, hM.new ka, hF.kept ka id, hH.kept ka id, by simp, by simp, h1, h2, hne⟩, hk.trans ka, ?_⟩
  have := hk.size
  rintro k (rfl | rfl | rfl | rfl) <;> assumption
set_option maxHeartbeats 2000000 in
set_option maxRecDepth 20000 in
theorem new_st (x r : Int) (w : World) : Calls Try.prog 7 #[.int .i64 x, .int .i64 r] w fun e w' => ∃ sb, e = .returned (.pointer (some ⟨sb, 0, none⟩)) ∧ ∃ mb fb hb,
    StoreAt w' sb mb fb hb (max 1 (min x 64)).toNat (max r 0) 0 [] (List.replicate (max 1 (min x 64)).toNat 0) (List.replicate (max 1 (min x 64)).toNat 0) ∧ Kept No w w' ∧ ∀ k, OwnS sb mb fb hb k → w.heap.size ≤ k := by
  obtain ⟨n, hn⟩ : ∃ n, n = (max 1 (min x 64)).toNat := ⟨_, rfl⟩
  have hx : max 1 (min x 64) = (n : Int) := by omega
  have h1 : 1 ≤ n := by omega
  have h2 : n ≤ 64 := by omega
  rw [← hn, show max r 0 = if r < 0 then 0 else r by split <;> omega]
  have hdec : r < 0 ∨ ¬ r < 0 := Classical.em _
  clear hn
  have HN : Hid (1 ≤ n ∧ n ≤ 64) := ⟨h1, h2⟩
  clear h1 h2
  have K0 : Hid (Kept No w w.drew) := (Kept.refl _ _).drew
  rcases hdec with hr | hr <;> simp only [hr, if_true, if_false] <;> go_enter Try.func7, Try.ntmps7
  all_goals go_wp2
  all_goals
    refine wp_region_plan No (.pur 0 (.pur 1 (.pur 3 (.pur 5 (.fork3 2 4 6 (.fork 4 6 (.grow 6 (.pur 7 (.grow 8 (.pur 9 .fin)))) (.grow 4 (.pur 7 (.grow 8 (.pur 9 .fin))))) (.fork 2 6 (.grow 6 (.pur 7 (.grow 8 (.pur 9 .fin)))) (.grow 2 (.pur 7 (.grow 8 (.pur 9 .fin))))) (.fork 2 4 (.grow 4 (.pur 7 (.grow 8 (.pur 9 .fin)))) (.grow 2 (.pur 7 (.grow 8 (.pur 9 .fin)))))))))) [] mixed (by kernel_rfl) ?_
    repeat ((first | refine pl_pur (by simp only [List.getD_cons_succ, List.getD_cons_zero]; rfl) _ (by rfl) (fun W => by go_simp; with_reducible rfl) ?_ | refine pl_rd (by simp only [List.getD_cons_succ, List.getD_cons_zero]; rfl) _ (by rfl) (fun W hW => by have hc := kcell hW; clear hW; go_simp; with_reducible rfl) ?_); simp only [Act.put, List.setIfInBounds_toArray, List.set_cons_zero, List.set_cons_succ])
    refine pl_fork3 (by simp only [List.getD_cons_succ, List.getD_cons_zero]; rfl) (by simp only [List.getD_cons_succ, List.getD_cons_zero]; rfl) (by simp only [List.getD_cons_succ, List.getD_cons_zero]; rfl) (gp_map rfl 50 (by rfl) fun w1 mw1 kw1 => ?_) (gp_nums rfl (.tmp 11) (.tmp 11) 26 (by rfl) Try.underlying26 info28 n _ (by rfl) (by rfl) (by omega) HN.out.2 fun w1 mw1 kw1 => ?_) (gp_nums rfl (.tmp 13) (.tmp 13) 26 (by rfl) Try.underlying26 info28 n _ (by rfl) (by rfl) (by omega) HN.out.2 fun w1 mw1 kw1 => ?_)
    · simp only [Act.put, List.setIfInBounds_toArray, List.set_cons_zero, List.set_cons_succ]
      refine pl_fork2 (by simp only [List.getD_cons_succ, List.getD_cons_zero]; rfl) (by simp only [List.getD_cons_succ, List.getD_cons_zero]; rfl) (gp_nums rfl (.tmp 11) (.tmp 11) 26 (by rfl) Try.underlying26 info28 n _ (by rfl) (by rfl) (by omega) HN.out.2 fun w2 mw2 kw2 => ?_) (gp_nums rfl (.tmp 13) (.tmp 13) 26 (by rfl) Try.underlying26 info28 n _ (by rfl) (by rfl) (by omega) HN.out.2 fun w2 mw2 kw2 => ?_)
      · simp only [Act.put, List.setIfInBounds_toArray, List.set_cons_zero, List.set_cons_succ]
        refine pl_grow (by simp only [List.getD_cons_succ, List.getD_cons_zero]; rfl) (gp_nums rfl (.tmp 13) (.tmp 13) 26 (by rfl) Try.underlying26 info28 n _ (by rfl) (by rfl) (by omega) HN.out.2 fun w3 mw3 kw3 => ?_)
        simp only [Act.put, List.setIfInBounds_toArray, List.set_cons_zero, List.set_cons_succ]
        have mM := (mw1.new kw2).new kw3
        have mF := mw2.kept kw3 id
        have mH := mw3
        have HE := fun room h => new_end (room := room) mM mF mH h (K0.out.trans (kw1.trans (kw2.trans kw3))) HN.out.1 HN.out.2
        have s1 := kw1.size
        have s2 := kw2.size
        have z1 := mw1.lt
        have z2 := mw2.lt
        have z3 := mw3.lt
        have sd : w.drew.heap.size = w.heap.size := rfl
        clear mw1 mw2 mw3 kw1 kw2 kw3 mM mF mH
        repeat ((first | refine pl_pur (by simp only [List.getD_cons_succ, List.getD_cons_zero]; rfl) _ (by rfl) (fun W => by go_simp; with_reducible rfl) ?_ | refine pl_rd (by simp only [List.getD_cons_succ, List.getD_cons_zero]; rfl) _ (by rfl) (fun W hW => by have hc := kcell hW; clear hW; go_simp; with_reducible rfl) ?_); simp only [Act.put, List.setIfInBounds_toArray, List.set_cons_zero, List.set_cons_succ])
        refine pl_grow (by simp only [List.getD_cons_succ, List.getD_cons_zero]; rfl) ?_
        go_wp2
        refine GPost.mk ((Kept.refl _ _).alloc _) ?_
        repeat ((first | refine pl_pur (by simp only [List.getD_cons_succ, List.getD_cons_zero]; rfl) _ (by rfl) (fun W => by go_simp; with_reducible rfl) ?_ | refine pl_rd (by simp only [List.getD_cons_succ, List.getD_cons_zero]; rfl) _ (by rfl) (fun W hW => by have hc := kcell hW; clear hW; go_simp; with_reducible rfl) ?_); simp only [Act.put, List.setIfInBounds_toArray, List.set_cons_zero, List.set_cons_succ])
        refine pl_fin ?_
        go_wp2
        go_ret
        exact HE _ (by omega) (by omega) (by omega) (by omega)
      · simp only [Act.put, List.setIfInBounds_toArray, List.set_cons_zero, List.set_cons_succ]
        refine pl_grow (by simp only [List.getD_cons_succ, List.getD_cons_zero]; rfl) (gp_nums rfl (.tmp 11) (.tmp 11) 26 (by rfl) Try.underlying26 info28 n _ (by rfl) (by rfl) (by omega) HN.out.2 fun w3 mw3 kw3 => ?_)
        simp only [Act.put, List.setIfInBounds_toArray, List.set_cons_zero, List.set_cons_succ]
        have mM := (mw1.new kw2).new kw3
        have mF := mw3
        have mH := mw2.kept kw3 id
        have HE := fun room h => new_end (room := room) mM mF mH h (K0.out.trans (kw1.trans (kw2.trans kw3))) HN.out.1 HN.out.2
        have s1 := kw1.size
        have s2 := kw2.size
        have z1 := mw1.lt
        have z2 := mw2.lt
        have z3 := mw3.lt
        have sd : w.drew.heap.size = w.heap.size := rfl
        clear mw1 mw2 mw3 kw1 kw2 kw3 mM mF mH
        repeat ((first | refine pl_pur (by simp only [List.getD_cons_succ, List.getD_cons_zero]; rfl) _ (by rfl) (fun W => by go_simp; with_reducible rfl) ?_ | refine pl_rd (by simp only [List.getD_cons_succ, List.getD_cons_zero]; rfl) _ (by rfl) (fun W hW => by have hc := kcell hW; clear hW; go_simp; with_reducible rfl) ?_); simp only [Act.put, List.setIfInBounds_toArray, List.set_cons_zero, List.set_cons_succ])
        refine pl_grow (by simp only [List.getD_cons_succ, List.getD_cons_zero]; rfl) ?_
        go_wp2
        refine GPost.mk ((Kept.refl _ _).alloc _) ?_
        repeat ((first | refine pl_pur (by simp only [List.getD_cons_succ, List.getD_cons_zero]; rfl) _ (by rfl) (fun W => by go_simp; with_reducible rfl) ?_ | refine pl_rd (by simp only [List.getD_cons_succ, List.getD_cons_zero]; rfl) _ (by rfl) (fun W hW => by have hc := kcell hW; clear hW; go_simp; with_reducible rfl) ?_); simp only [Act.put, List.setIfInBounds_toArray, List.set_cons_zero, List.set_cons_succ])
        refine pl_fin ?_
        go_wp2
        go_ret
        exact HE _ (by omega) (by omega) (by omega) (by omega)
    · simp only [Act.put, List.setIfInBounds_toArray, List.set_cons_zero, List.set_cons_succ]
      refine pl_fork2 (by simp only [List.getD_cons_succ, List.getD_cons_zero]; rfl) (by simp only [List.getD_cons_succ, List.getD_cons_zero]; rfl) (gp_map rfl 50 (by rfl) fun w2 mw2 kw2 => ?_) (gp_nums rfl (.tmp 13) (.tmp 13) 26 (by rfl) Try.underlying26 info28 n _ (by rfl) (by rfl) (by omega) HN.out.2 fun w2 mw2 kw2 => ?_)
      · simp only [Act.put, List.setIfInBounds_toArray, List.set_cons_zero, List.set_cons_succ]
        refine pl_grow (by simp only [List.getD_cons_succ, List.getD_cons_zero]; rfl) (gp_nums rfl (.tmp 13) (.tmp 13) 26 (by rfl) Try.underlying26 info28 n _ (by rfl) (by rfl) (by omega) HN.out.2 fun w3 mw3 kw3 => ?_)
        simp only [Act.put, List.setIfInBounds_toArray, List.set_cons_zero, List.set_cons_succ]
        have mM := mw2.new kw3
        have mF := (mw1.kept kw2 id).kept kw3 id
        have mH := mw3
        have HE := fun room h => new_end (room := room) mM mF mH h (K0.out.trans (kw1.trans (kw2.trans kw3))) HN.out.1 HN.out.2
        have s1 := kw1.size
        have s2 := kw2.size
        have z1 := mw1.lt
        have z2 := mw2.lt
        have z3 := mw3.lt
        have sd : w.drew.heap.size = w.heap.size := rfl
        clear mw1 mw2 mw3 kw1 kw2 kw3 mM mF mH
        repeat ((first | refine pl_pur (by simp only [List.getD_cons_succ, List.getD_cons_zero]; rfl) _ (by rfl) (fun W => by go_simp; with_reducible rfl) ?_ | refine pl_rd (by simp only [List.getD_cons_succ, List.getD_cons_zero]; rfl) _ (by rfl) (fun W hW => by have hc := kcell hW; clear hW; go_simp; with_reducible rfl) ?_); simp only [Act.put, List.setIfInBounds_toArray, List.set_cons_zero, List.set_cons_succ])
        refine pl_grow (by simp only [List.getD_cons_succ, List.getD_cons_zero]; rfl) ?_
        go_wp2
        refine GPost.mk ((Kept.refl _ _).alloc _) ?_
        repeat ((first | refine pl_pur (by simp only [List.getD_cons_succ, List.getD_cons_zero]; rfl) _ (by rfl) (fun W => by go_simp; with_reducible rfl) ?_ | refine pl_rd (by simp only [List.getD_cons_succ, List.getD_cons_zero]; rfl) _ (by rfl) (fun W hW => by have hc := kcell hW; clear hW; go_simp; with_reducible rfl) ?_); simp only [Act.put, List.setIfInBounds_toArray, List.set_cons_zero, List.set_cons_succ])
        refine pl_fin ?_
        go_wp2
        go_ret
        exact HE _ (by omega) (by omega) (by omega) (by omega)
      · simp only [Act.put, List.setIfInBounds_toArray, List.set_cons_zero, List.set_cons_succ]
        refine pl_grow (by simp only [List.getD_cons_succ, List.getD_cons_zero]; rfl) (gp_map rfl 50 (by rfl) fun w3 mw3 kw3 => ?_)
        simp only [Act.put, List.setIfInBounds_toArray, List.set_cons_zero, List.set_cons_succ]
        have mM := mw3
        have mF := (mw1.kept kw2 id).kept kw3 id
        have mH := mw2.kept kw3 id
        have HE := fun room h => new_end (room := room) mM mF mH h (K0.out.trans (kw1.trans (kw2.trans kw3))) HN.out.1 HN.out.2
        have s1 := kw1.size
        have s2 := kw2.size
        have z1 := mw1.lt
        have z2 := mw2.lt
        have z3 := mw3.lt
        have sd : w.drew.heap.size = w.heap.size := rfl
        clear mw1 mw2 mw3 kw1 kw2 kw3 mM mF mH
        repeat ((first | refine pl_pur (by simp only [List.getD_cons_succ, List.getD_cons_zero]; rfl) _ (by rfl) (fun W => by go_simp; with_reducible rfl) ?_ | refine pl_rd (by simp only [List.getD_cons_succ, List.getD_cons_zero]; rfl) _ (by rfl) (fun W hW => by have hc := kcell hW; clear hW; go_simp; with_reducible rfl) ?_); simp only [Act.put, List.setIfInBounds_toArray, List.set_cons_zero, List.set_cons_succ])
        refine pl_grow (by simp only [List.getD_cons_succ, List.getD_cons_zero]; rfl) ?_
        go_wp2
        refine GPost.mk ((Kept.refl _ _).alloc _) ?_
        repeat ((first | refine pl_pur (by simp only [List.getD_cons_succ, List.getD_cons_zero]; rfl) _ (by rfl) (fun W => by go_simp; with_reducible rfl) ?_ | refine pl_rd (by simp only [List.getD_cons_succ, List.getD_cons_zero]; rfl) _ (by rfl) (fun W hW => by have hc := kcell hW; clear hW; go_simp; with_reducible rfl) ?_); simp only [Act.put, List.setIfInBounds_toArray, List.set_cons_zero, List.set_cons_succ])
        refine pl_fin ?_
        go_wp2
        go_ret
        exact HE _ (by omega) (by omega) (by omega) (by omega)
    · simp only [Act.put, List.setIfInBounds_toArray, List.set_cons_zero, List.set_cons_succ]
      refine pl_fork2 (by simp only [List.getD_cons_succ, List.getD_cons_zero]; rfl) (by simp only [List.getD_cons_succ, List.getD_cons_zero]; rfl) (gp_map rfl 50 (by rfl) fun w2 mw2 kw2 => ?_) (gp_nums rfl (.tmp 11) (.tmp 11) 26 (by rfl) Try.underlying26 info28 n _ (by rfl) (by rfl) (by omega) HN.out.2 fun w2 mw2 kw2 => ?_)
      · simp only [Act.put, List.setIfInBounds_toArray, List.set_cons_zero, List.set_cons_succ]
        refine pl_grow (by simp only [List.getD_cons_succ, List.getD_cons_zero]; rfl) (gp_nums rfl (.tmp 11) (.tmp 11) 26 (by rfl) Try.underlying26 info28 n _ (by rfl) (by rfl) (by omega) HN.out.2 fun w3 mw3 kw3 => ?_)
        simp only [Act.put, List.setIfInBounds_toArray, List.set_cons_zero, List.set_cons_succ]
        have mM := mw2.new kw3
        have mF := mw3
        have mH := (mw1.kept kw2 id).kept kw3 id
        have HE := fun room h => new_end (room := room) mM mF mH h (K0.out.trans (kw1.trans (kw2.trans kw3))) HN.out.1 HN.out.2
        have s1 := kw1.size
        have s2 := kw2.size
        have z1 := mw1.lt
        have z2 := mw2.lt
        have z3 := mw3.lt
        have sd : w.drew.heap.size = w.heap.size := rfl
        clear mw1 mw2 mw3 kw1 kw2 kw3 mM mF mH
        repeat ((first | refine pl_pur (by simp only [List.getD_cons_succ, List.getD_cons_zero]; rfl) _ (by rfl) (fun W => by go_simp; with_reducible rfl) ?_ | refine pl_rd (by simp only [List.getD_cons_succ, List.getD_cons_zero]; rfl) _ (by rfl) (fun W hW => by have hc := kcell hW; clear hW; go_simp; with_reducible rfl) ?_); simp only [Act.put, List.setIfInBounds_toArray, List.set_cons_zero, List.set_cons_succ])
        refine pl_grow (by simp only [List.getD_cons_succ, List.getD_cons_zero]; rfl) ?_
        go_wp2
        refine GPost.mk ((Kept.refl _ _).alloc _) ?_
        repeat ((first | refine pl_pur (by simp only [List.getD_cons_succ, List.getD_cons_zero]; rfl) _ (by rfl) (fun W => by go_simp; with_reducible rfl) ?_ | refine pl_rd (by simp only [List.getD_cons_succ, List.getD_cons_zero]; rfl) _ (by rfl) (fun W hW => by have hc := kcell hW; clear hW; go_simp; with_reducible rfl) ?_); simp only [Act.put, List.setIfInBounds_toArray, List.set_cons_zero, List.set_cons_succ])
        refine pl_fin ?_
        go_wp2
        go_ret
        exact HE _ (by omega) (by omega) (by omega) (by omega)
      · simp only [Act.put, List.setIfInBounds_toArray, List.set_cons_zero, List.set_cons_succ]
        refine pl_grow (by simp only [List.getD_cons_succ, List.getD_cons_zero]; rfl) (gp_map rfl 50 (by rfl) fun w3 mw3 kw3 => ?_)
        simp only [Act.put, List.setIfInBounds_toArray, List.set_cons_zero, List.set_cons_succ]
        have mM := mw3
        have mF := mw2.kept kw3 id
        have mH := (mw1.kept kw2 id).kept kw3 id
        have HE := fun room h => new_end (room := room) mM mF mH h (K0.out.trans (kw1.trans (kw2.trans kw3))) HN.out.1 HN.out.2
        have s1 := kw1.size
        have s2 := kw2.size
        have z1 := mw1.lt
        have z2 := mw2.lt
        have z3 := mw3.lt
        have sd : w.drew.heap.size = w.heap.size := rfl
        clear mw1 mw2 mw3 kw1 kw2 kw3 mM mF mH
        repeat ((first | refine pl_pur (by simp only [List.getD_cons_succ, List.getD_cons_zero]; rfl) _ (by rfl) (fun W => by go_simp; with_reducible rfl) ?_ | refine pl_rd (by simp only [List.getD_cons_succ, List.getD_cons_zero]; rfl) _ (by rfl) (fun W hW => by have hc := kcell hW; clear hW; go_simp; with_reducible rfl) ?_); simp only [Act.put, List.setIfInBounds_toArray, List.set_cons_zero, List.set_cons_succ])
        refine pl_grow (by simp only [List.getD_cons_succ, List.getD_cons_zero]; rfl) ?_
        go_wp2
        refine GPost.mk ((Kept.refl _ _).alloc _) ?_
        repeat ((first | refine pl_pur (by simp only [List.getD_cons_succ, List.getD_cons_zero]; rfl) _ (by rfl) (fun W => by go_simp; with_reducible rfl) ?_ | refine pl_rd (by simp only [List.getD_cons_succ, List.getD_cons_zero]; rfl) _ (by rfl) (fun W hW => by have hc := kcell hW; clear hW; go_simp; with_reducible rfl) ?_); simp only [Act.put, List.setIfInBounds_toArray, List.set_cons_zero, List.set_cons_succ])
        refine pl_fin ?_
        go_wp2
        go_ret
        exact HE _ (by omega) (by omega) (by omega) (by omega)

theorem held_st {w : World} {sb mb fb hb n : Nat} {room used : Int} {l : List ((Int × Int) × Value)} {fl hd : List Int} (H : StoreAt w sb mb fb hb n room used l fl hd) (hr : ∀ x ∈ hd, InR .u64 x) :
    Calls Try.prog 8 #[.pointer (some ⟨sb, 0, none⟩)] w fun e w' => ∃ v, e = .returned v ∧ TW (kI .u64) 28 w' No v hd ∧ Fresh w v ∧ Kept No w w' := by
  have hc := H.c4
  have hC := clone_u64 (kI .u64) rfl (.slice (some ⟨hb, 0, none⟩) n n) hd w (fun k => k = hb) (H.h.sl H.hn (by have := H.n2; simp only [maxLen]; omega) hr) (fun k hk => by subst hk; exact H.h.lt) (by rw [H.hn]; have := H.n2; omega)
  clear H
  go_enter Try.func8, Try.ntmps8
  go_wp2_with (go_at_call 23; ((with_reducible refine hC.mono ?_); rintro e w1 ⟨v, rfl, h1, h2, h3⟩; have H1 : Hid (TW (kI .u64) 28 w1 No v hd ∧ Fresh w v ∧ Kept No w w1) := ⟨h1.ints, h2, h3⟩; clear h1 h2 h3))
  go_ret
  exact ⟨_, rfl, H1.out⟩
theorem held_snil (w : World) : Calls Try.prog 8 #[.pointer none] w fun e w' => e = .returned (.slice none 0 0) ∧ w = w' := by
  go_enter Try.func8, Try.ntmps8
  go_wp2
  go_ret
  exact ⟨rfl, rfl⟩
theorem floor_st {w : World} {sb mb fb hb n : Nat} {room used : Int} {l : List ((Int × Int) × Value)} {fl hd : List Int} (H : StoreAt w sb mb fb hb n room used l fl hd) (hr : ∀ x ∈ fl, InR .u64 x) :
    Calls Try.prog 9 #[.pointer (some ⟨sb, 0, none⟩)] w fun e w' => ∃ v, e = .returned v ∧ TW (kI .u64) 28 w' No v fl ∧ Fresh w v ∧ Kept No w w' := by
  have hc := H.c3
  have hC := clone_u64 (kI .u64) rfl (.slice (some ⟨fb, 0, none⟩) n n) fl w (fun k => k = fb) (H.f.sl H.fn (by have := H.n2; simp only [maxLen]; omega) hr) (fun k hk => by subst hk; exact H.f.lt) (by rw [H.fn]; have := H.n2; omega)
  clear H
  go_enter Try.func9, Try.ntmps9
  go_wp2_with (go_at_call 23; ((with_reducible refine hC.mono ?_); rintro e w1 ⟨v, rfl, h1, h2, h3⟩; have H1 : Hid (TW (kI .u64) 28 w1 No v fl ∧ Fresh w v ∧ Kept No w w1) := ⟨h1.ints, h2, h3⟩; clear h1 h2 h3))
  go_ret
  exact ⟨_, rfl, H1.out⟩
theorem floor_snil (w : World) : Calls Try.prog 9 #[.pointer none] w fun e w' => e = .returned (.slice none 0 0) ∧ w = w' := by
  go_enter Try.func9, Try.ntmps9
  go_wp2
  go_ret
  exact ⟨rfl, rfl⟩
theorem used_st {w : World} {sb mb fb hb n : Nat} {room used : Int} {l : List ((Int × Int) × Value)} {fl hd : List Int} (H : StoreAt w sb mb fb hb n room used l fl hd) :
    Calls Try.prog 13 #[.pointer (some ⟨sb, 0, none⟩)] w fun e w' => e = .returned (.int .i64 used) ∧ w = w' := by
  have hc := H.c1
  clear H
  go_enter Try.func13, Try.ntmps13
  go_wp2
  go_ret
  exact ⟨rfl, rfl⟩
theorem used_snil (w : World) : Calls Try.prog 13 #[.pointer none] w fun e w' => e = .returned (.int .i64 0) ∧ w = w' := by
  go_enter Try.func13, Try.ntmps13
  go_wp2
  go_ret
  exact ⟨rfl, rfl⟩
theorem len_snil (w : World) : Calls Try.prog 18 #[.pointer none] w fun e w' => e = .returned (.int .i64 0) ∧ w = w' := by
  go_enter Try.func18, Try.ntmps18
  go_wp2
  go_ret
  exact ⟨rfl, rfl⟩
theorem len_st {w : World} {sb mb fb hb n : Nat} {room used : Int} {l : List ((Int × Int) × Value)} {fl hd : List Int} (H : StoreAt w sb mb fb hb n room used l fl hd) :
    Calls Try.prog 18 #[.pointer (some ⟨sb, 0, none⟩)] w fun e w' => e = .returned (.int .i64 l.length) ∧ w = w' := by
  have hc := H.c2
  obtain ⟨es, clock, h1, h2⟩ := H.m
  have hl : es.size = l.length := by have := congrArg List.length h2; simpa using this
  rw [← hl]
  have hlen : (Builtin.len_ #[50] 3 #[.map (some mb)]).run Try.prog w = .ok (.int .i64 es.size) w := by simp [Builtin.len_, run_underlying Try.underlying50, run_getObj_map w mb es clock h1, goInt]
  clear H h2 hl
  go_enter Try.func18, Try.ntmps18
  go_wp2
  go_ret
  exact ⟨rfl, rfl⟩
end Go.Proofs.Ytnmjholnnnclcaa
